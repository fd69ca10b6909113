/- The law's fixed examples hold. -/
import Derived.Test.YtdbmggdnbdcanaaPOwed
import Derived.Test.YtdbmggdnbdcanaaCut
namespace Go.Proofs.Ytdbmggdnbdcanaa
open Go.RowKit
open BigFrame

def c5 : Id := 5
def c6 : Id := 6
def c9 : Id := 9
def c10 : Id := 10
def c20 : Id := 20
def fL : List Id := [c9, c20]
def gL : List Id := [c9]
theorem n5 : (idL c5).toArray = #[.int .u8 0, .int .u8 0, .int .u8 0, .int .u8 0, .int .u8 0, .int .u8 0, .int .u8 0, .int .u8 0, .int .u8 0, .int .u8 0, .int .u8 0, .int .u8 0, .int .u8 0, .int .u8 0, .int .u8 0, .int .u8 (5 : Nat)] := by kernel_rfl
theorem n6 : (idL c6).toArray = #[.int .u8 0, .int .u8 0, .int .u8 0, .int .u8 0, .int .u8 0, .int .u8 0, .int .u8 0, .int .u8 0, .int .u8 0, .int .u8 0, .int .u8 0, .int .u8 0, .int .u8 0, .int .u8 0, .int .u8 0, .int .u8 (6 : Nat)] := by kernel_rfl
theorem n9 : (idL c9).toArray = #[.int .u8 0, .int .u8 0, .int .u8 0, .int .u8 0, .int .u8 0, .int .u8 0, .int .u8 0, .int .u8 0, .int .u8 0, .int .u8 0, .int .u8 0, .int .u8 0, .int .u8 0, .int .u8 0, .int .u8 0, .int .u8 (9 : Nat)] := by kernel_rfl
theorem n10 : (idL c10).toArray = #[.int .u8 0, .int .u8 0, .int .u8 0, .int .u8 0, .int .u8 0, .int .u8 0, .int .u8 0, .int .u8 0, .int .u8 0, .int .u8 0, .int .u8 0, .int .u8 0, .int .u8 0, .int .u8 0, .int .u8 0, .int .u8 (10 : Nat)] := by kernel_rfl
theorem n20 : (idL c20).toArray = #[.int .u8 0, .int .u8 0, .int .u8 0, .int .u8 0, .int .u8 0, .int .u8 0, .int .u8 0, .int .u8 0, .int .u8 0, .int .u8 0, .int .u8 0, .int .u8 0, .int .u8 0, .int .u8 0, .int .u8 0, .int .u8 (20 : Nat)] := by kernel_rfl
theorem fixed_root : rootN c5 c6 fL fL.length = true := by decide
theorem fixed_owed1 : owedR c5 c6 fL = fL := by decide
theorem fixed_owed2 : owedR c5 c10 fL = gL := by decide

theorem fold_off (o : Nat) : ∀ (L : List Value) (k : Nat) (z : Array Value), (L.zipIdx k).foldl (fun cs x => cs.setIfInBounds (o + x.snd) x.fst) z = (L.zipIdx (o + k)).foldl (fun cs x => cs.setIfInBounds x.snd x.fst) z
  | [], _, _ => rfl
  | v :: r, k, z => by
    rw [List.zipIdx_cons, List.zipIdx_cons, List.foldl_cons, List.foldl_cons, fold_off o r (k + 1)]
    rfl
@[go_sem] theorem fold_size : ∀ (L : List Value) (k : Nat) (z : Array Value), ((L.zipIdx k).foldl (fun cs x => cs.setIfInBounds x.snd x.fst) z).size = z.size
  | [], _, _ => rfl
  | v :: r, k, z => by rw [List.zipIdx_cons, List.foldl_cons, fold_size r (k + 1)]; simp
@[go_sem] theorem fold_two (x y : Id) (z : Array Value) (hz : z.size = 32) :
    (idL y).zipIdx.foldl (fun cs x => cs.setIfInBounds (16 + x.snd) x.fst) ((idL x).zipIdx.foldl (fun cs x => cs.setIfInBounds x.snd x.fst) z) = (idL x ++ idL y).toArray := by
  apply Array.toList_inj.1
  have h1 := fold_zip (idL x) z 0 (by rw [idL_length]; omega)
  have h2 := fold_size (idL x) 0 z
  rw [fold_off, fold_zip _ _ _ (by rw [h2, idL_length]; omega), h1, idL_length, idL_length]
  have e1 : (List.take 0 z.toList ++ idL x ++ List.drop (0 + 16) z.toList).take (16 + 0) = idL x := by
    rw [List.take_zero, List.nil_append]
    exact List.take_left' (idL_length x)
  have e2 : (List.take 0 z.toList ++ idL x ++ List.drop (0 + 16) z.toList).drop (16 + 0 + 16) = [] := by
    apply List.drop_of_length_le
    simp
    omega
  rw [e1, e2, List.append_nil]
theorem own_made2 (w : World) (x y : Id) : Own (w.alloc (.cells (idL x ++ idL y).toArray 23)) w.heap.size 2 [x, y] :=
  ⟨(idL x ++ idL y).toArray, heap_alloc_new w _, by simp, Nat.le_refl _, by unfold maxLen; omega, by rw [show flat [x, y] = idL x ++ idL y by simp [flat]]; exact List.take_of_length_le (by simp)⟩

def fixDs (g : Nat) : Nat → Value → World → Prop := fun t x W =>
  match t with
  | 5 => x = .agg (idL c5).toArray
  | 6 => x = .slice (some ⟨g, 0, none⟩) 2 2
  | 7 => x = .agg (idL c6).toArray
  | 8 => x = .bool true
  | 9 => x = .bool true
  | 10 => x = .agg (idL c5).toArray
  | 11 => x = .slice (some ⟨g, 0, none⟩) 2 2
  | 12 => x = .agg (idL c6).toArray
  | 13 => IdsV W x fL
  | 14 => x = .slice (some ⟨g, 0, none⟩) 2 2
  | 15 => x = .bool true
  | 16 => x = .bool true
  | 17 => x = .bool true
  | 18 => x = .agg (idL c5).toArray
  | 19 => x = .slice (some ⟨g, 0, none⟩) 2 2
  | 20 => x = .agg (idL c10).toArray
  | 21 => IdsV W x gL
  | 22 => x = .slice (some ⟨g, 0, none⟩) 2 2
  | 23 => x = .slice (some ⟨g, 0, none⟩) 1 2
  | 24 => x = .bool true
  | 25 => x = .bool true
  | 26 => x = .bool true
  | 27 => ∃ b, x = .pointer (some ⟨b, 0, none⟩)
  | 28 => x = .bool true
  | 29 => x = .bool true
  | 0 => x = .bool true
  | _ => True

set_option maxHeartbeats 12800000 in
theorem fixed_any (w : World) : Calls Try.prog 8 #[] w fun e w' => e = .returned (.bool true) ∧ Kept w w' := by
  go_enter Try.func8, Try.ntmps8
  go_wp2_with (go_at_call 17; first | (refine (n_any 9 c9 _ n9).mono ?_; rintro e w1 ⟨rfl, q1⟩) | (refine (n_any 20 c20 _ n20).mono ?_; rintro e w2 ⟨rfl, q2⟩))
  refine wp_any_world (fun W => Kept w W ∧ Own W w2.heap.size 2 fL) ⟨ka (kt q1 q2) _, own_made2 _ _ _⟩ ?_
  rintro W ⟨q, ho⟩
  clear q1 q2
  generalize w2.heap.size = g at ho ⊢
  have hfv : IdsV W (.slice (some ⟨g, 0, none⟩) 2 2) fL := .inr ⟨g, 0, 2, rfl, own_ids ho⟩
  have hfv1 : IdsV W (.slice (some ⟨g, 0, none⟩) 1 2) gL := .inr ⟨g, 0, 2, rfl, own_ids (own_take ho 1)⟩
  have L8 := Lib.hid (show ∀ W', IdsV W' (.slice (some ⟨g, 0, none⟩) 2 2) fL → Calls Try.prog 9 #[.agg (idL c5).toArray, .slice (some ⟨g, 0, none⟩) 2 2, .agg (idL c6).toArray] W' fun e w' => e = .returned (.bool true) ∧ Kept W' w' from fun W' h => by
    have := root_any c5 _ c6 fL W' h (by decide)
    rwa [best_root, fixed_root] at this)
  have L13 := Lib.hid (show ∀ W', IdsV W' (.slice (some ⟨g, 0, none⟩) 2 2) fL → Calls Try.prog 12 #[.agg (idL c5).toArray, .slice (some ⟨g, 0, none⟩) 2 2, .agg (idL c6).toArray] W' fun e w' => ∃ v', e = .returned v' ∧ IdsV w' v' fL ∧ Kept W' w' from fun W' h => by
    have := powed_any c5 _ c6 fL W' h (by decide)
    rwa [fixed_owed1] at this)
  have L21 := Lib.hid (show ∀ W', IdsV W' (.slice (some ⟨g, 0, none⟩) 2 2) fL → Calls Try.prog 12 #[.agg (idL c5).toArray, .slice (some ⟨g, 0, none⟩) 2 2, .agg (idL c10).toArray] W' fun e w' => ∃ v', e = .returned v' ∧ IdsV w' v' gL ∧ Kept W' w' from fun W' h => by
    have := powed_any c5 _ c10 fL W' h (by decide)
    rwa [fixed_owed2] at this)
  have L15 := Lib.hid (show ∀ W' u, IdsV W' u fL → IdsV W' (.slice (some ⟨g, 0, none⟩) 2 2) fL → Calls Try.prog 11 #[u, .slice (some ⟨g, 0, none⟩) 2 2] W' fun e w' => e = .returned (.bool true) ∧ Kept W' w' from fun W' u h h' => by
    have := same_any u _ fL fL W' h h' (by decide) (by decide)
    rwa [beq_self_eq_true] at this)
  have L24 := Lib.hid (show ∀ W' u, IdsV W' u gL → IdsV W' (.slice (some ⟨g, 0, none⟩) 1 2) gL → Calls Try.prog 11 #[u, .slice (some ⟨g, 0, none⟩) 1 2] W' fun e w' => e = .returned (.bool true) ∧ Kept W' w' from fun W' u h h' => by
    have := same_any u _ gL gL W' h h' (by decide) (by decide)
    rwa [beq_self_eq_true] at this)
  refine wp_region_loose (fixDs g) ?mk (by kernel_rfl) (by kernel_rfl) ?hmk ?hmono ?hstep ?hQ
  case hmk =>
    intro f
    simp only [mkOf, List.foldl, Act.put, List.setIfInBounds_toArray, List.set_cons_zero, List.set_cons_succ]
    rfl
  case hmono =>
    intro t x W1 W2 h hk
    unfold fixDs at h ⊢
    split <;> simp only at h ⊢ <;> first | exact h | exact idsV_kept hk h
  case hstep =>
    refine ⟨?s0, ?s1, ?s2, ?s3, ?s4, ?s5, ?s6, ?s7, ?s8, ?s9, ?s10, ?s11, ?s12, ?s13, ?s14, ?s15, ?s16, ?s17, ?s18, ?s19, ?s20, ?s21, ?s22, ?s23, ?s24, ?s25, trivial⟩
    case s0 =>
      intro f W2 hk hd
      rw [if_pos (by kernel_rfl)]
      intro K hK
      go_simp
      refine (n_any 5 c5 _ n5).mono ?_
      rintro e w' ⟨rfl, hkk⟩
      exact hK _ _ ⟨.agg (idL c5).toArray, by simp [Act.put], hkk, fun t ht => by obtain rfl := Option.some.inj ht; exact rfl⟩
    case s1 =>
      intro f W2 hk hd
      rw [if_pos (by kernel_rfl)]
      intro K hK
      go_simp
      exact hK _ _ ⟨.slice (some ⟨g, 0, none⟩) 2 2, by simp [Act.put], k0 _, fun t ht => by obtain rfl := Option.some.inj ht; exact rfl⟩
    case s2 =>
      intro f W2 hk hd
      rw [if_pos (by kernel_rfl)]
      intro K hK
      go_simp
      refine (n_any 6 c6 _ n6).mono ?_
      rintro e w' ⟨rfl, hkk⟩
      exact hK _ _ ⟨.agg (idL c6).toArray, by simp [Act.put], hkk, fun t ht => by obtain rfl := Option.some.inj ht; exact rfl⟩
    case s3 =>
      intro f W2 hk hd
      have h5 : f 5 = .agg (idL c5).toArray := dep hd 5 (by kernel_rfl)
      have h6 : f 6 = .slice (some ⟨g, 0, none⟩) 2 2 := dep hd 6 (by kernel_rfl)
      have h7 : f 7 = .agg (idL c6).toArray := dep hd 7 (by kernel_rfl)
      rw [if_pos (by kernel_rfl)]
      intro K hK
      go_simp
      refine (L8.out _ (idsV_kept hk hfv)).mono ?_
      rintro e w' ⟨rfl, hkk⟩
      exact hK _ _ ⟨.bool true, by simp [Act.put, h5, h6, h7], hkk, fun t ht => by obtain rfl := Option.some.inj ht; exact rfl⟩
    case s4 =>
      intro f W2 hk hd
      have h8 : f 8 = .bool true := dep hd 8 (by kernel_rfl)
      rw [if_pos (by kernel_rfl)]
      intro K hK
      go_simp
      exact hK _ _ ⟨.bool true, by simp [Act.put, h8], k0 _, fun t ht => by obtain rfl := Option.some.inj ht; exact rfl⟩
    case s5 =>
      intro f W2 hk hd
      have h9 : f 9 = .bool true := dep hd 9 (by kernel_rfl)
      rw [if_pos (by simp [Region.wanted, yielded, h9])]
      intro K hK
      go_simp
      refine (n_any 5 c5 _ n5).mono ?_
      rintro e w' ⟨rfl, hkk⟩
      exact hK _ _ ⟨.agg (idL c5).toArray, by simp [Act.put, h9], hkk, fun t ht => by obtain rfl := Option.some.inj ht; exact rfl⟩
    case s6 =>
      intro f W2 hk hd
      have h9 : f 9 = .bool true := dep hd 9 (by kernel_rfl)
      rw [if_pos (by simp [Region.wanted, yielded, h9])]
      intro K hK
      go_simp
      exact hK _ _ ⟨.slice (some ⟨g, 0, none⟩) 2 2, by simp [Act.put, h9], k0 _, fun t ht => by obtain rfl := Option.some.inj ht; exact rfl⟩
    case s7 =>
      intro f W2 hk hd
      have h9 : f 9 = .bool true := dep hd 9 (by kernel_rfl)
      rw [if_pos (by simp [Region.wanted, yielded, h9])]
      intro K hK
      go_simp
      refine (n_any 6 c6 _ n6).mono ?_
      rintro e w' ⟨rfl, hkk⟩
      exact hK _ _ ⟨.agg (idL c6).toArray, by simp [Act.put, h9], hkk, fun t ht => by obtain rfl := Option.some.inj ht; exact rfl⟩
    case s8 =>
      intro f W2 hk hd
      have h10 : f 10 = .agg (idL c5).toArray := dep hd 10 (by kernel_rfl)
      have h11 : f 11 = .slice (some ⟨g, 0, none⟩) 2 2 := dep hd 11 (by kernel_rfl)
      have h12 : f 12 = .agg (idL c6).toArray := dep hd 12 (by kernel_rfl)
      have h9 : f 9 = .bool true := dep hd 9 (by kernel_rfl)
      rw [if_pos (by simp [Region.wanted, yielded, h9])]
      intro K hK
      go_simp
      refine (L13.out _ (idsV_kept hk hfv)).mono ?_
      rintro e w' ⟨v', rfl, hi, hkk⟩
      exact hK _ _ ⟨v', by simp [Act.put, h10, h11, h12, h9], hkk, fun t ht => by obtain rfl := Option.some.inj ht; exact hi⟩
    case s9 =>
      intro f W2 hk hd
      have h9 : f 9 = .bool true := dep hd 9 (by kernel_rfl)
      rw [if_pos (by simp [Region.wanted, yielded, h9])]
      intro K hK
      go_simp
      exact hK _ _ ⟨.slice (some ⟨g, 0, none⟩) 2 2, by simp [Act.put, h9], k0 _, fun t ht => by obtain rfl := Option.some.inj ht; exact rfl⟩
    case s10 =>
      intro f W2 hk hd
      obtain h13 : IdsV W2 (f 13) fL := dep hd 13 (by kernel_rfl)
      have h14 : f 14 = .slice (some ⟨g, 0, none⟩) 2 2 := dep hd 14 (by kernel_rfl)
      have h9 : f 9 = .bool true := dep hd 9 (by kernel_rfl)
      rw [if_pos (by simp [Region.wanted, yielded, h9])]
      intro K hK
      go_simp
      refine (L15.out _ _ h13 (idsV_kept hk hfv)).mono ?_
      rintro e w' ⟨rfl, hkk⟩
      exact hK _ _ ⟨.bool true, by simp [Act.put, h14, h9], hkk, fun t ht => by obtain rfl := Option.some.inj ht; exact rfl⟩
    case s11 =>
      intro f W2 hk hd
      have h9 : f 9 = .bool true := dep hd 9 (by kernel_rfl)
      have h15 : f 15 = .bool true := dep hd 15 (by kernel_rfl)
      rw [if_pos (by kernel_rfl)]
      intro K hK
      go_simp
      exact hK _ _ ⟨.bool true, by simp [Act.put, h9, h15], k0 _, fun t ht => by obtain rfl := Option.some.inj ht; exact rfl⟩
    case s12 =>
      intro f W2 hk hd
      have h16 : f 16 = .bool true := dep hd 16 (by kernel_rfl)
      rw [if_pos (by kernel_rfl)]
      intro K hK
      go_simp
      exact hK _ _ ⟨.bool true, by simp [Act.put, h16], k0 _, fun t ht => by obtain rfl := Option.some.inj ht; exact rfl⟩
    case s13 =>
      intro f W2 hk hd
      have h17 : f 17 = .bool true := dep hd 17 (by kernel_rfl)
      rw [if_pos (by simp [Region.wanted, yielded, h17])]
      intro K hK
      go_simp
      refine (n_any 5 c5 _ n5).mono ?_
      rintro e w' ⟨rfl, hkk⟩
      exact hK _ _ ⟨.agg (idL c5).toArray, by simp [Act.put, h17], hkk, fun t ht => by obtain rfl := Option.some.inj ht; exact rfl⟩
    case s14 =>
      intro f W2 hk hd
      have h17 : f 17 = .bool true := dep hd 17 (by kernel_rfl)
      rw [if_pos (by simp [Region.wanted, yielded, h17])]
      intro K hK
      go_simp
      exact hK _ _ ⟨.slice (some ⟨g, 0, none⟩) 2 2, by simp [Act.put, h17], k0 _, fun t ht => by obtain rfl := Option.some.inj ht; exact rfl⟩
    case s15 =>
      intro f W2 hk hd
      have h17 : f 17 = .bool true := dep hd 17 (by kernel_rfl)
      rw [if_pos (by simp [Region.wanted, yielded, h17])]
      intro K hK
      go_simp
      refine (n_any 10 c10 _ n10).mono ?_
      rintro e w' ⟨rfl, hkk⟩
      exact hK _ _ ⟨.agg (idL c10).toArray, by simp [Act.put, h17], hkk, fun t ht => by obtain rfl := Option.some.inj ht; exact rfl⟩
    case s16 =>
      intro f W2 hk hd
      have h18 : f 18 = .agg (idL c5).toArray := dep hd 18 (by kernel_rfl)
      have h19 : f 19 = .slice (some ⟨g, 0, none⟩) 2 2 := dep hd 19 (by kernel_rfl)
      have h20 : f 20 = .agg (idL c10).toArray := dep hd 20 (by kernel_rfl)
      have h17 : f 17 = .bool true := dep hd 17 (by kernel_rfl)
      rw [if_pos (by simp [Region.wanted, yielded, h17])]
      intro K hK
      go_simp
      refine (L21.out _ (idsV_kept hk hfv)).mono ?_
      rintro e w' ⟨v', rfl, hi, hkk⟩
      exact hK _ _ ⟨v', by simp [Act.put, h18, h19, h20, h17], hkk, fun t ht => by obtain rfl := Option.some.inj ht; exact hi⟩
    case s17 =>
      intro f W2 hk hd
      have h17 : f 17 = .bool true := dep hd 17 (by kernel_rfl)
      rw [if_pos (by simp [Region.wanted, yielded, h17])]
      intro K hK
      go_simp
      exact hK _ _ ⟨.slice (some ⟨g, 0, none⟩) 2 2, by simp [Act.put, h17], k0 _, fun t ht => by obtain rfl := Option.some.inj ht; exact rfl⟩
    case s18 =>
      intro f W2 hk hd
      have h22 : f 22 = .slice (some ⟨g, 0, none⟩) 2 2 := dep hd 22 (by kernel_rfl)
      have h17 : f 17 = .bool true := dep hd 17 (by kernel_rfl)
      rw [if_pos (by simp [Region.wanted, yielded, h17])]
      intro K hK
      go_simp
      exact hK _ _ ⟨.slice (some ⟨g, 0, none⟩) 1 2, by simp [Act.put, h22, h17], k0 _, fun t ht => by obtain rfl := Option.some.inj ht; exact rfl⟩
    case s19 =>
      intro f W2 hk hd
      obtain h21 : IdsV W2 (f 21) gL := dep hd 21 (by kernel_rfl)
      have h23 : f 23 = .slice (some ⟨g, 0, none⟩) 1 2 := dep hd 23 (by kernel_rfl)
      have h17 : f 17 = .bool true := dep hd 17 (by kernel_rfl)
      rw [if_pos (by simp [Region.wanted, yielded, h17])]
      intro K hK
      go_simp
      refine (L24.out _ _ h21 (idsV_kept hk hfv1)).mono ?_
      rintro e w' ⟨rfl, hkk⟩
      exact hK _ _ ⟨.bool true, by simp [Act.put, h23, h17], hkk, fun t ht => by obtain rfl := Option.some.inj ht; exact rfl⟩
    case s20 =>
      intro f W2 hk hd
      have h17 : f 17 = .bool true := dep hd 17 (by kernel_rfl)
      have h24 : f 24 = .bool true := dep hd 24 (by kernel_rfl)
      rw [if_pos (by kernel_rfl)]
      intro K hK
      go_simp
      exact hK _ _ ⟨.bool true, by simp [Act.put, h17, h24], k0 _, fun t ht => by obtain rfl := Option.some.inj ht; exact rfl⟩
    case s21 =>
      intro f W2 hk hd
      have h25 : f 25 = .bool true := dep hd 25 (by kernel_rfl)
      rw [if_pos (by kernel_rfl)]
      intro K hK
      go_simp
      exact hK _ _ ⟨.bool true, by simp [Act.put, h25], k0 _, fun t ht => by obtain rfl := Option.some.inj ht; exact rfl⟩
    case s22 =>
      intro f W2 hk hd
      have h26 : f 26 = .bool true := dep hd 26 (by kernel_rfl)
      rw [if_pos (by simp [Region.wanted, yielded, h26])]
      intro K hK
      go_simp
      refine (new_any _).mono ?_
      rintro e w' ⟨⟨b, rfl⟩, hkk⟩
      exact hK _ _ ⟨.pointer (some ⟨b, 0, none⟩), by simp [Act.put, h26], hkk, fun t ht => by obtain rfl := Option.some.inj ht; exact ⟨b, rfl⟩⟩
    case s23 =>
      intro f W2 hk hd
      obtain ⟨b, h27⟩ : ∃ b, f 27 = .pointer (some ⟨b, 0, none⟩) := dep hd 27 (by kernel_rfl)
      have h26 : f 26 = .bool true := dep hd 26 (by kernel_rfl)
      rw [if_pos (by simp [Region.wanted, yielded, h26])]
      intro K hK
      go_simp
      exact hK _ _ ⟨.bool true, by simp [Act.put, h26, h27], k0 _, fun t ht => by obtain rfl := Option.some.inj ht; exact rfl⟩
    case s24 =>
      intro f W2 hk hd
      have h26 : f 26 = .bool true := dep hd 26 (by kernel_rfl)
      have h28 : f 28 = .bool true := dep hd 28 (by kernel_rfl)
      rw [if_pos (by kernel_rfl)]
      intro K hK
      go_simp
      exact hK _ _ ⟨.bool true, by simp [Act.put, h26, h28], k0 _, fun t ht => by obtain rfl := Option.some.inj ht; exact rfl⟩
    case s25 =>
      intro f W2 hk hd
      have h29 : f 29 = .bool true := dep hd 29 (by kernel_rfl)
      rw [if_pos (by kernel_rfl)]
      intro K hK
      go_simp
      exact hK _ _ ⟨.bool true, by simp [Act.put, h29], k0 _, fun t ht => by obtain rfl := Option.some.inj ht; exact rfl⟩
  case hQ =>
    intro f W2 hk hd
    have h0 : f 0 = .bool true := hd 0 (dst_of (by kernel_rfl))
    go_wp2_with fail
    go_ret
    exact ⟨congrArg Ending.returned h0, kt q hk⟩
end Go.Proofs.Ytdbmggdnbdcanaa
