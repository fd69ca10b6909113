/- vault.Merge, of an item whose key is kept: not newer; newer. -/
import Derived.Test.YtaifnopoojbcfaaVault7
namespace Go.Proofs.Ytaifnopoojbcfaa
open Go.RowKit
open BigFrame

-- DEF begins
def mrgDs (vb lb : Nat) (key who : Id) (v : Value) (R : List UInt8) : Nat → Value → World → Prop := fun t x W =>
  match t with
  | 48 => x = .pointer (some ⟨vb, 0, none⟩)
  | 49 => x = .pointer (some ⟨vb, 0, none⟩)
  | 50 => x = .pointer (some ⟨vb, 0, none⟩)
  | 51 => x = .pointer (some ⟨lb, 0, none⟩)
  | 52 => x = .agg (itemL ⟨key, ⟨1, who⟩, v⟩).toArray
  | 53 => OwV W 0 5 x (bL R)
  | _ => True
def mrgDt (vb mb : Nat) (key who : Id) (w : World) : Nat → Value → World → Prop := fun t x _ =>
  match t with
  | 58 => x = .pointer (some ⟨vb, 0, none⟩)
  | 59 => x = .pointer (some ⟨vb, 0, none⟩)
  | 60 => x = .pointer (some ⟨vb, 1, none⟩)
  | 61 => x = .map (some mb)
  | 62 => x = .pointer (some ⟨w.heap.size, 0, none⟩)
  | 63 => x = .agg (idL key).toArray
  | 64 => x = .agg (itemL ⟨key, ⟨1, who⟩, .slice none 0 0⟩).toArray
  | 65 => ∃ v', x = .agg (itemL ⟨key, ⟨1, who⟩, v'⟩).toArray
  | _ => True
-- DEF ends

set_option maxRecDepth 100000 in
set_option maxHeartbeats 1600000 in
theorem merge_old (vb lb mb inc : Nat) (key who : Id) (y : It) (w : World) (hV : VaultAt w vb lb mb inc) (hM : MapAt w mb (some (key, y))) (hsl : isSl y.val = true) (hn : newerB ⟨1, who⟩ y.ver = false) :
    Calls Try.prog 17 #[.pointer (some ⟨vb, 0, none⟩), .agg (itemL ⟨key, ⟨1, who⟩, .slice none 0 0⟩).toArray] w fun e w' => e = .returned (.tuple #[.bool false, .int .i64 0]) ∧ Kept w w' := by
  go_enter Try.func17, Try.ntmps17
  go_wp2_with fail
  refine wp_any_world (fun W => Kept w W ∧ rowAt W w.heap.size 0 34 = some (itemL ⟨key, ⟨1, who⟩, .slice none 0 0⟩)) ⟨ka (k0 w) _, rowAt_alloc_at _ _ _ _ _ rfl (itemL_length _)⟩ ?_
  rintro W ⟨q, r0⟩
  refine wp_region_one (af := ?af) ⟨10, 11, 6, 37, 28, 34, itemL y⟩ (by kernel_rfl) (by kernel_rfl) (by kernel_rfl) (by kernel_rfl) (itemL zItem).toArray (by simp) alloc_item (by kernel_rfl) (by simp) ?g1 ?hh (rowOk_item _ hsl) ?g3 ?hq
  case hh =>
    intro V hV'
    obtain ⟨c0, c1, c2, -⟩ := vault_cells (vault_kept (kt q hV') hV)
    have f1 := cell_later c1
    have f2 := rowAt_later (item_key (rowAt_below hV' r0))
    have f3 := fun p : Regrown => run_lookupM (later V p) mb (some (key, y)) key true (map_kept (kept_later V p) (map_kept (kt q hV') hM))
    simp only [got, if_true] at f3 f2
    clear c0 c1 c2
    simp (config := { decide := true }) only [nopAt, nopOf, ↓reduceIte]
    repeat (go_big_quiet_step (fail))
    refine wpQuiet_nil ?_
    rfl
  case g1 => simp
  case g3 => rfl
  case hq =>
    intro b W1 hk hb _ hr
    simp only [Act.put, List.setIfInBounds_toArray, List.set_cons_zero, List.set_cons_succ]
    have q2 := kt q hk
    have r1 := item_ver (rowAt_below hk r0)
    have r2 := item_ver hr
    go_wp2_with fail
    refine (newer_any ⟨1, who⟩ y.ver _).mono ?_
    rintro e w3 ⟨rfl, q3⟩
    rw [hn]
    go_wp2_with fail
    go_ret2
    exact ⟨rfl, kt q2 q3⟩

set_option maxRecDepth 100000 in
set_option maxHeartbeats 1600000 in
theorem merge_new (vb lb mb inc a g : Nat) (S : List (List UInt8)) (gen u : Nat) (key who : Id) (y : It) (w : World) (hV : VaultAt w vb lb mb inc) (hM : MapAt w mb (some (key, y))) (hL : LogAt w lb a gen u u false) (hD : DiskAt w a g S (-1)) (hsl : isSl y.val = true) (hn : newerB ⟨1, who⟩ y.ver = true)
    (h1 : lb ≠ a) (h2 : lb ≠ g) (h3 : mb ≠ a) (h4 : mb ≠ g) (h5 : mb ≠ lb) (h6 : vb ≠ a) (h7 : vb ≠ g) (h8 : vb ≠ lb) (h9 : vb ≠ mb) (hroom : u + 3 ≤ S.length) (hg : gen ≤ 1000) (hu : u ≤ 1000) :
    Calls Try.prog 17 #[.pointer (some ⟨vb, 0, none⟩), .agg (itemL ⟨key, ⟨1, who⟩, .slice none 0 0⟩).toArray] w fun e w' => e = .returned (.tuple #[.bool true, .int .i64 0]) ∧ VaultAt w' vb lb mb inc ∧ LogAt w' lb a (gen + 1) (u + 1) (u + 1) false ∧ KeptX [a, g, lb, mb] w w' := by
  go_enter Try.func17, Try.ntmps17
  go_wp2_with fail
  refine wp_any_world (fun W => Kept w W ∧ rowAt W w.heap.size 0 34 = some (itemL ⟨key, ⟨1, who⟩, .slice none 0 0⟩)) ⟨ka (k0 w) _, rowAt_alloc_at _ _ _ _ _ rfl (itemL_length _)⟩ ?_
  rintro W ⟨q, r0⟩
  refine wp_region_one (af := ?af) ⟨10, 11, 6, 37, 28, 34, itemL y⟩ (by kernel_rfl) (by kernel_rfl) (by kernel_rfl) (by kernel_rfl) (itemL zItem).toArray (by simp) alloc_item (by kernel_rfl) (by simp) ?g1 ?hh (rowOk_item _ hsl) ?g3 ?hq
  case hh =>
    intro V hV'
    obtain ⟨c0, c1, c2, -⟩ := vault_cells (vault_kept (kt q hV') hV)
    have f1 := cell_later c1
    have f2 := rowAt_later (item_key (rowAt_below hV' r0))
    have f3 := fun p : Regrown => run_lookupM (later V p) mb (some (key, y)) key true (map_kept (kept_later V p) (map_kept (kt q hV') hM))
    simp only [got, if_true] at f3 f2
    clear c0 c1 c2
    simp (config := { decide := true }) only [nopAt, nopOf, ↓reduceIte]
    repeat (go_big_quiet_step (fail))
    refine wpQuiet_nil ?_
    rfl
  case g1 => simp
  case g3 => rfl
  case hq =>
    intro b W1 hk hb _ hr
    simp only [Act.put, List.setIfInBounds_toArray, List.set_cons_zero, List.set_cons_succ]
    have q2 := kt q hk
    have r1 := item_ver (rowAt_below hk r0)
    have r2 := item_ver hr
    go_wp2_with fail
    refine (newer_any ⟨1, who⟩ y.ver _).mono ?_
    rintro e W9 ⟨rfl, q9⟩
    rw [hn]
    have q9' := kt q2 q9
    have hR9 := rowAt_below (kt hk q9) r0
    have hV9 := vault_kept q9' hV
    have hM9 := map_kept q9' hM
    have hL9 := log_kept q9' hL
    have hD9 := disk_kept q9' hD
    have hE9 := elV_nil W9
    have hda := disk_lt hD
    have hla := log_lt hL
    have hma := map_lt hM
    clear r1 r2 hr q9 q2 r0 q hk hb
    go_wp2_with fail
    refine wp_region_tail 6 (mrgDs vb lb key who (.slice none 0 0) (formB key 1 who [])) ?mk2 (by kernel_rfl) (by kernel_rfl) ?hmk ?hmono ?hstep ?hQ
    case hmk =>
      intro f
      simp only [mkOf, List.take_succ_cons, List.take_zero, List.foldl, Act.put, List.setIfInBounds_toArray, List.set_cons_zero, List.set_cons_succ]
      rfl
    case hmono =>
      intro t x W1 W2 h hk
      unfold mrgDs at h ⊢
      split <;> simp only at h ⊢ <;> first | exact h | exact owV_kept hk h
-- STEPS begins
    case hstep =>
      refine ⟨?s0, ?s1, ?s2, ?s3, ?s4, ?s5, trivial⟩
      case s0 =>
        intro f W2 hk hd
        rw [if_pos (by kernel_rfl)]
        intro K hK
        go_simp
        exact hK _ _ ⟨.pointer (some ⟨vb, 0, none⟩), by simp [Act.put], k0 _, fun t ht => by obtain rfl := Option.some.inj ht; exact rfl⟩
      case s1 =>
        intro f W2 hk hd
        have h48 : f 48 = .pointer (some ⟨vb, 0, none⟩) := dep hd 48 (by kernel_rfl)
        rw [if_pos (by kernel_rfl)]
        intro K hK
        go_simp
        exact hK _ _ ⟨.pointer (some ⟨vb, 0, none⟩), by simp [Act.put, h48], k0 _, fun t ht => by obtain rfl := Option.some.inj ht; exact rfl⟩
      case s2 =>
        intro f W2 hk hd
        have h49 : f 49 = .pointer (some ⟨vb, 0, none⟩) := dep hd 49 (by kernel_rfl)
        rw [if_pos (by kernel_rfl)]
        intro K hK
        go_simp
        exact hK _ _ ⟨.pointer (some ⟨vb, 0, none⟩), by simp [Act.put, h49], k0 _, fun t ht => by obtain rfl := Option.some.inj ht; exact rfl⟩
      case s3 =>
        intro f W2 hk hd
        have h50 : f 50 = .pointer (some ⟨vb, 0, none⟩) := dep hd 50 (by kernel_rfl)
        rw [if_pos (by kernel_rfl)]
        intro K hK
        obtain ⟨c0, c1, c2, f2⟩ := vault_cells (vault_kept hk hV9)
        go_simp
        exact hK _ _ ⟨.pointer (some ⟨lb, 0, none⟩), by simp [Act.put, h50], k0 _, fun t ht => by obtain rfl := Option.some.inj ht; exact rfl⟩
      case s4 =>
        intro f W2 hk hd
        rw [if_pos (by kernel_rfl)]
        intro K hK
        have r9 := rowAt_below hk hR9
        go_simp
        exact hK _ _ ⟨.agg (itemL ⟨key, ⟨1, who⟩, .slice none 0 0⟩).toArray, by simp [Act.put], k0 _, fun t ht => by obtain rfl := Option.some.inj ht; exact rfl⟩
      case s5 =>
        intro f W2 hk hd
        have h52 : f 52 = .agg (itemL ⟨key, ⟨1, who⟩, .slice none 0 0⟩).toArray := dep hd 52 (by kernel_rfl)
        rw [if_pos (by kernel_rfl)]
        intro K hK
        go_simp
        refine (pform_any key 1 who (.slice none 0 0) [] _ (elV_kept hk hE9) (by first | omega | simp) (by omega)).mono ?_
        rintro e w' ⟨v', rfl, hi, hkk⟩
        exact hK _ _ ⟨v', by simp [Act.put, h52], hkk, fun t ht => by obtain rfl := Option.some.inj ht; exact owV_mono hi (Nat.zero_le _)⟩
-- STEPS ends
    case hQ =>
      intro f W10 hk10 hdd
      have h51 : f 51 = .pointer (some ⟨lb, 0, none⟩) := hdd 51 (dst_of (by kernel_rfl))
      have h53 : OwV W10 0 5 (f 53) (bL (formB key 1 who [])) := hdd 53 (dst_of (by kernel_rfl))
      have hlen : (formB key 1 who []).length ≤ 60 := by
        unfold formB text1
        have l1 := num1_le 2 (by omega)
        have l2 := num1_le 1 (by omega)
        have l3 := num1_le ([] : List UInt8).length (by simp)
        simp only [List.length_append, bytL_length] at *
        simp at *
        omega
      have HLEN := Lib.hid hlen
      rw [h51]
      generalize f 53 = v53 at h53 ⊢
      obtain ⟨a53, cp53, rfl, -, -⟩ := elV_form (owV_elV h53)
      rw [bL_length] at h53 ⊢
      have hE53 := Lib.hid (owV_elV h53)
      have hV10 := vault_kept hk10 hV9
      have hM10 := map_kept hk10 hM9
      have hL10 := log_kept hk10 hL9
      have hD10 := disk_kept hk10 hD9
      have R10 := rowAt_below hk10 hR9
      have k10 := kt q9' hk10
      clear hdd h51 h53 hlen
      simp only [List.drop_succ_cons, List.drop_zero]
      go_wp2_with fail
      refine (sappend_any lb a g S (-1) gen u u _ (formB key 1 who []) W10 hL10 hD10 h1 h2 hE53.out HLEN.out hroom (by omega) (by omega) (by omega) (by omega)).mono ?_
      rintro e w11 hpost
      rcases hpost with ⟨hp, _⟩ | ⟨hp, _⟩ | ⟨_, _, rfl, hD11, hL11, x11⟩
      · omega
      · omega
      have hV11 := vault_x x11 hV10 (by simp [h6, h7, h8])
      have hM11 := map_x x11 hM10 (by simp [h3, h4, h5])
      have R11 := rowAt_x x11 R10 (by simp; omega)
      have k11 : KeptX [a, g, lb, mb] w w11 := xt (xk k10) (xm x11 (by simp))
      clear hV10 hM10 hL10 hD10 R10 hE53 hV9 hM9 hL9 hD9 hR9 hE9 hk10
      go_wp2_with fail
      refine wp_region_tail 8 (mrgDt vb mb key who w) ?mk3 (by kernel_rfl) (by kernel_rfl) ?hmk ?hmono ?hstep ?hQ
      case hmk =>
        intro f
        simp only [mkOf, List.take_succ_cons, List.take_zero, List.foldl, Act.put, List.setIfInBounds_toArray, List.set_cons_zero, List.set_cons_succ]
        rfl
      case hmono =>
        intro t x W1 W2 h hk
        unfold mrgDt at h ⊢
        split <;> simp only at h ⊢ <;> exact h
-- STEPS2 begins
      case hstep =>
        refine ⟨?s0, ?s1, ?s2, ?s3, ?s4, ?s5, ?s6, ?s7, trivial⟩
        case s0 =>
          intro f W2 hk hd
          rw [if_pos (by kernel_rfl)]
          intro K hK
          go_simp
          exact hK _ _ ⟨.pointer (some ⟨vb, 0, none⟩), by simp [Act.put], k0 _, fun t ht => by obtain rfl := Option.some.inj ht; exact rfl⟩
        case s1 =>
          intro f W2 hk hd
          have h58 : f 58 = .pointer (some ⟨vb, 0, none⟩) := dep hd 58 (by kernel_rfl)
          rw [if_pos (by kernel_rfl)]
          intro K hK
          go_simp
          exact hK _ _ ⟨.pointer (some ⟨vb, 0, none⟩), by simp [Act.put, h58], k0 _, fun t ht => by obtain rfl := Option.some.inj ht; exact rfl⟩
        case s2 =>
          intro f W2 hk hd
          have h59 : f 59 = .pointer (some ⟨vb, 0, none⟩) := dep hd 59 (by kernel_rfl)
          rw [if_pos (by kernel_rfl)]
          intro K hK
          go_simp
          exact hK _ _ ⟨.pointer (some ⟨vb, 1, none⟩), by simp [Act.put, h59], k0 _, fun t ht => by obtain rfl := Option.some.inj ht; exact rfl⟩
        case s3 =>
          intro f W2 hk hd
          have h60 : f 60 = .pointer (some ⟨vb, 1, none⟩) := dep hd 60 (by kernel_rfl)
          rw [if_pos (by kernel_rfl)]
          intro K hK
          obtain ⟨c0, c1, c2, f2⟩ := vault_cells (vault_kept hk hV11)
          go_simp
          exact hK _ _ ⟨.map (some mb), by simp [Act.put, h60], k0 _, fun t ht => by obtain rfl := Option.some.inj ht; exact rfl⟩
        case s4 =>
          intro f W2 hk hd
          rw [if_pos (by kernel_rfl)]
          intro K hK
          go_simp
          exact hK _ _ ⟨.pointer (some ⟨w.heap.size, 0, none⟩), by simp [Act.put], k0 _, fun t ht => by obtain rfl := Option.some.inj ht; exact rfl⟩
        case s5 =>
          intro f W2 hk hd
          have h62 : f 62 = .pointer (some ⟨w.heap.size, 0, none⟩) := dep hd 62 (by kernel_rfl)
          rw [if_pos (by kernel_rfl)]
          intro K hK
          have r9 : rowAt W2 w.heap.size 0 16 = some (idL key) := item_key (rowAt_below hk R11)
          go_simp
          exact hK _ _ ⟨.agg (idL key).toArray, by simp [Act.put, h62], k0 _, fun t ht => by obtain rfl := Option.some.inj ht; exact rfl⟩
        case s6 =>
          intro f W2 hk hd
          rw [if_pos (by kernel_rfl)]
          intro K hK
          have r9 := rowAt_below hk R11
          go_simp
          exact hK _ _ ⟨.agg (itemL ⟨key, ⟨1, who⟩, .slice none 0 0⟩).toArray, by simp [Act.put], k0 _, fun t ht => by obtain rfl := Option.some.inj ht; exact rfl⟩
        case s7 =>
          intro f W2 hk hd
          have h64 : f 64 = .agg (itemL ⟨key, ⟨1, who⟩, .slice none 0 0⟩).toArray := dep hd 64 (by kernel_rfl)
          rw [if_pos (by kernel_rfl)]
          intro K hK
          go_simp
          refine (copied_any ⟨key, ⟨1, who⟩, .slice none 0 0⟩ [] _ (elV_nil _) (by simp)).mono ?_
          rintro e w' ⟨v', rfl, hi, hkk⟩
          exact hK _ _ ⟨.agg (itemL ⟨key, ⟨1, who⟩, v'⟩).toArray, by simp [Act.put, h64], hkk, fun t ht => by obtain rfl := Option.some.inj ht; exact ⟨v', rfl⟩⟩
-- STEPS2 ends
      case hQ =>
        intro f W12 hk12 hdd
        have h61 : f 61 = .map (some mb) := hdd 61 (dst_of (by kernel_rfl))
        have h63 : f 63 = .agg (idL key).toArray := hdd 63 (dst_of (by kernel_rfl))
        obtain ⟨v65, h65⟩ : ∃ v', f 65 = .agg (itemL ⟨key, ⟨1, who⟩, v'⟩).toArray := hdd 65 (dst_of (by kernel_rfl))
        have hM12 := map_kept hk12 hM11
        have hV12 := vault_kept hk12 hV11
        have hL12 := log_kept hk12 hL11
        rw [h61, h63, h65]
        clear hdd h61 h63 h65
        simp only [List.drop_succ_cons, List.drop_zero]
        refine wpList_update rfl (.tmp 61) (.tmp 63) (.tmp 65) rfl mb (some (key, y)) key ⟨key, ⟨1, who⟩, v65⟩ rfl rfl rfl hM12 (by intro y' z h; simp at h; exact h.1.symm) ?_
        intro w13 hM13 x13
        go_wp2_with fail
        go_ret2
        exact ⟨rfl, vault_x x13 hV12 (by simp [h9]), log_x x13 hL12 (by simp; omega), xt k11 (xt (xk hk12) (xm x13 (by simp)))⟩
end Go.Proofs.Ytaifnopoojbcfaa
