/- vault.Put into an empty vault. -/
import Derived.Test.YtaifnopoojbcfaaBuild
namespace Go.Proofs.Ytaifnopoojbcfaa
open Go.RowKit
open BigFrame

/-- The parts of an item by value, by a name into which the walk does not look. -/
def fieldI (x : Value) : Sem Value := Instr.field 28 x 1
def fieldV (x : Value) : Sem Value := Instr.field 25 x 0
@[go_sem ↓, go_sem high] theorem fieldI_alias (x : Value) : Instr.field 28 x 1 = fieldI x := rfl
@[go_sem ↓, go_sem high] theorem fieldV_alias (x : Value) : Instr.field 25 x 0 = fieldV x := rfl
@[go_sem] theorem run_fieldI (W : World) : (fieldI (.agg (itemL zItem).toArray)).run Try.prog W = .ok (.agg (verL zItem.ver).toArray) W := by kernel_rfl
@[go_sem] theorem run_fieldV (W : World) : (fieldV (.agg (verL zItem.ver).toArray)).run Try.prog W = .ok (.int .i64 0) W := by kernel_rfl

theorem canPut_x {bs : List Nat} {w w' : World} (hk : KeptX bs w w') {b o k : Nat} (h : canPut w b o k = true) (hn : b ∉ bs) : canPut w' b o k = true := by
  rw [canPut_same (hk.block b (canPut_size h) hn)]; exact h
-- DEF begins
def putDs (vb lb : Nat) (key who : Id) (v : Value) (R : List UInt8) : Nat → Value → World → Prop := fun t x W =>
  match t with
  | 41 => x = .pointer (some ⟨vb, 0, none⟩)
  | 42 => x = .pointer (some ⟨vb, 0, none⟩)
  | 43 => x = .pointer (some ⟨vb, 0, none⟩)
  | 44 => x = .pointer (some ⟨lb, 0, none⟩)
  | 45 => x = .agg (itemL ⟨key, ⟨1, who⟩, v⟩).toArray
  | 46 => OwV W 0 5 x (bL R)
  | _ => True
-- DEF ends
set_option maxRecDepth 100000 in
set_option maxHeartbeats 800000 in
theorem put_any (vb lb mb inc a g : Nat) (S : List (List UInt8)) (gen u : Nat) (key who : Id) (v : Value) (t : List UInt8) (w : World) (hV : VaultAt w vb lb mb inc) (hM : MapAt w mb none) (hL : LogAt w lb a gen u u false) (hD : DiskAt w a g S (-1))
    (hs : ElV w v (bL t)) (ht0 : 0 < t.length) (ht : t.length ≤ 20) (h1 : lb ≠ a) (h2 : lb ≠ g) (h3 : mb ≠ a) (h4 : mb ≠ g) (h5 : mb ≠ lb) (h6 : vb ≠ a) (h7 : vb ≠ g) (h8 : vb ≠ lb) (h9 : vb ≠ mb) (hroom : u + 3 ≤ S.length) (hg : gen ≤ 1000) (hu : u ≤ 1000) :
    Calls Try.prog 14 #[.pointer (some ⟨vb, 0, none⟩), .agg (idL key).toArray, v, .agg (idL who).toArray] w fun e w' => (∃ ao cp, e = .returned (.tuple #[.agg (itemL ⟨key, ⟨1, who⟩, .slice ao t.length cp⟩).toArray, .int .i64 0])) ∧
      DiskAt w' a g ((S.set (2 + u) (recSec (formB key 1 who t))).set ((gen + 1) % 2) (headSec (gen + 1) (u + 1) (u + 1))) (-1) ∧ KeptX [a, g, lb, mb] w w' := by
  obtain ⟨ao, cap, rfl, -, -⟩ := elV_form hs
  rw [bL_length] at hs ⊢
  go_enter Try.func14, Try.ntmps14
  go_wp2_with fail
  refine wp_any_world (fun W => Kept w W ∧ rowAt W w.heap.size 0 16 = some (idL key) ∧ rowAt W (w.heap.size + 1) 0 16 = some (idL who) ∧ canPut W (w.heap.size + 1 + 1) 0 34 = true) ⟨ka (ka (ka (k0 w) _) _) _, by go_simp, by go_simp, by go_simp⟩ ?_
  rintro W ⟨q, r0, r1, cp⟩
  have hV1 := vault_kept q hV
  obtain ⟨c0, c1, c2, f2⟩ := vault_cells hV1
  have g1 := cell_later c1
  have g2 := rowAt_later r0
  have f3 := fun p : Regrown => run_lookupM (later W p) mb none key false (map_kept (kept_later W p) (map_kept q hM))
  simp only [got, Bool.false_eq_true, if_false] at f3
  refine wp_region_later (by kernel_rfl) (by kernel_rfl) ?_
  repeat (go_big_quiet_step (fail))
  refine wpQuiet_nil ?_
  rintro W8 q8
  clear f3 c0 c1 c2 f2 g1 g2
  have r0 := rowAt_below q8 r0
  have r1 := rowAt_below q8 r1
  have cp := canPut_below q8 cp
  have q := kt q q8
  go_wp2_with (with_reducible refine stop_slot 37 rfl ?_)
  refine Stopped.go (wpList_build_ver rfl (.tmp 35) (.tmp 36) rfl 1 who rfl rfl ?_)
  go_wp2_with (with_reducible refine stop_slot 39 rfl ?_)
  refine Stopped.go (wpList_build_item rfl (.tmp 33) (.tmp 37) (.tmp 38) rfl key ⟨1, who⟩ ao t.length cap rfl rfl rfl ?_)
  go_wp2_with fail
  refine (copied_any ⟨key, ⟨1, who⟩, .slice ao t.length cap⟩ t _ (elV_kept q hs) (by omega)).mono ?_
  rintro e w9 ⟨v9, rfl, o9, q9⟩
  obtain ⟨a9, cp9, rfl, -, -⟩ := elV_form (owV_elV o9)
  rw [bL_length] at o9 ⊢
  have r0 := rowAt_below q9 r0
  have cp := canPut_below q9 cp
  have hw8 := q.size
  have q := kt q q9
  have hro := rowOk_item ⟨key, ⟨1, who⟩, .slice a9 t.length cp9⟩ rfl
  go_wp2_with fail
  have hda := disk_lt hD
  have hla := log_lt hL
  have hma := map_lt hM
  refine wp_any_world (fun W => Kept w W ∧ rowAt W w.heap.size 0 16 = some (idL key) ∧ canPut W (w.heap.size + 1 + 1) 0 34 = true ∧ rowAt W w9.heap.size 0 34 = some (itemL ⟨key, ⟨1, who⟩, .slice a9 t.length cp9⟩) ∧ OwV W 0 5 (.slice a9 t.length cp9) (bL t) ∧ OwV W w.heap.size 5 (.slice a9 t.length cp9) (bL t) ∧ w9.heap.size < W.heap.size) ⟨ka q _, rowAt_below (ka (k0 _) _) r0, canPut_below (ka (k0 _) _) cp, rowAt_alloc_at _ _ _ _ _ rfl (itemL_length _), owV_mono (owV_kept (ka (k0 _) _) o9) (Nat.zero_le _), owV_mono (owV_kept (ka (k0 _) _) o9) hw8, by simp⟩ ?_
  have hw9 := q.size
  clear r0 cp o9 q hro q9 r1
  rintro W9 ⟨q9, r9, cp9', hR9, hO9, hB9, hw99⟩
  have hV9 := vault_kept q9 hV
  have hM9 := map_kept q9 hM
  have hL9 := log_kept q9 hL
  have hD9 := disk_kept q9 hD
  have hE9 := owV_elV hO9
  have hoff9 : (∀ k, (Value.slice a9 t.length cp9).ownBlock = some k → k ∉ [a, g, lb]) ∧ (∀ k, (Value.slice a9 t.length cp9).ownBlock = some k → k ∉ [mb]) := by
    obtain ⟨gb, cb, he, -, -, hgb⟩ := owV_form hB9 (by rw [bL_length]; exact ht0)
    simp only [Value.slice.injEq] at he
    obtain ⟨rfl, -, -⟩ := he
    constructor <;> intro k hk <;> simp only [Value.ownBlock, Option.some.injEq] at hk <;> subst hk <;> simp <;> omega
  refine wp_region_tail 6 (putDs vb lb key who (.slice a9 t.length cp9) (formB key 1 who t)) ?mk2 (by kernel_rfl) (by kernel_rfl) ?hmk ?hmono ?hstep ?hQ
  case hmk =>
    intro f
    simp only [mkOf, List.take_succ_cons, List.take_zero, List.foldl, Act.put, List.setIfInBounds_toArray, List.set_cons_zero, List.set_cons_succ]
    rfl
  case hmono =>
    intro t x W1 W2 h hk
    unfold putDs at h ⊢
    split <;> simp only at h ⊢ <;> first | exact h | exact owV_kept hk h
-- STEPS begins
  case hstep =>
    refine ⟨?s0, ?s1, ?s2, ?s3, ?s4, ?s5, trivial⟩
    case s0 =>
      intro f W2 hk hd
      rw [if_pos (by kernel_rfl)]
      intro K hK
      go_simp
      exact hK _ _ ⟨.pointer (some ⟨vb, 0, none⟩), by simp [Act.put], k0 _, fun t ht => by obtain rfl := Option.some.inj ht; exact rfl⟩
    case s1 =>
      intro f W2 hk hd
      have h41 : f 41 = .pointer (some ⟨vb, 0, none⟩) := dep hd 41 (by kernel_rfl)
      rw [if_pos (by kernel_rfl)]
      intro K hK
      go_simp
      exact hK _ _ ⟨.pointer (some ⟨vb, 0, none⟩), by simp [Act.put, h41], k0 _, fun t ht => by obtain rfl := Option.some.inj ht; exact rfl⟩
    case s2 =>
      intro f W2 hk hd
      have h42 : f 42 = .pointer (some ⟨vb, 0, none⟩) := dep hd 42 (by kernel_rfl)
      rw [if_pos (by kernel_rfl)]
      intro K hK
      go_simp
      exact hK _ _ ⟨.pointer (some ⟨vb, 0, none⟩), by simp [Act.put, h42], k0 _, fun t ht => by obtain rfl := Option.some.inj ht; exact rfl⟩
    case s3 =>
      intro f W2 hk hd
      have h43 : f 43 = .pointer (some ⟨vb, 0, none⟩) := dep hd 43 (by kernel_rfl)
      rw [if_pos (by kernel_rfl)]
      intro K hK
      obtain ⟨c0, c1, c2, f2⟩ := vault_cells (vault_kept hk hV9)
      go_simp
      exact hK _ _ ⟨.pointer (some ⟨lb, 0, none⟩), by simp [Act.put, h43], k0 _, fun t ht => by obtain rfl := Option.some.inj ht; exact rfl⟩
    case s4 =>
      intro f W2 hk hd
      rw [if_pos (by kernel_rfl)]
      intro K hK
      have r9 := rowAt_below hk hR9
      go_simp
      exact hK _ _ ⟨.agg (itemL ⟨key, ⟨1, who⟩, .slice a9 t.length cp9⟩).toArray, by simp [Act.put], k0 _, fun t ht => by obtain rfl := Option.some.inj ht; exact rfl⟩
    case s5 =>
      intro f W2 hk hd
      have h45 : f 45 = .agg (itemL ⟨key, ⟨1, who⟩, .slice a9 t.length cp9⟩).toArray := dep hd 45 (by kernel_rfl)
      rw [if_pos (by kernel_rfl)]
      intro K hK
      go_simp
      refine (pform_any key 1 who (.slice a9 t.length cp9) t _ (elV_kept hk hE9) (by first | omega | simp) (by omega)).mono ?_
      rintro e w' ⟨v', rfl, hi, hkk⟩
      exact hK _ _ ⟨v', by simp [Act.put, h45], hkk, fun t ht => by obtain rfl := Option.some.inj ht; exact owV_mono hi (Nat.zero_le _)⟩
-- STEPS ends
  case hQ =>
    intro f W10 hk10 hdd
    have h44 : f 44 = .pointer (some ⟨lb, 0, none⟩) := hdd 44 (dst_of (by kernel_rfl))
    have h46 : OwV W10 0 5 (f 46) (bL (formB key 1 who t)) := hdd 46 (dst_of (by kernel_rfl))
    have hlen : (formB key 1 who t).length = 38 + t.length := by rw [formB_small (by omega) (by omega) ht0 (by omega)]; simp [bytL_length]; omega
    have HLEN := Lib.hid hlen
    rw [h44]
    generalize f 46 = v46 at h46 ⊢
    obtain ⟨a46, cp46, rfl, -, -⟩ := elV_form (owV_elV h46)
    rw [bL_length] at h46 ⊢
    have hE46 := Lib.hid (owV_elV h46)
    have hV10 := vault_kept hk10 hV9
    have hM10 := map_kept hk10 hM9
    have hL10 := log_kept hk10 hL9
    have hD10 := disk_kept hk10 hD9
    have r10 := rowAt_below hk10 r9
    have c10 := canPut_below hk10 cp9'
    have R10 := rowAt_below hk10 hR9
    have O10 := owV_kept hk10 hO9
    have HOFF := Lib.hid hoff9
    have k10 := kt q9 hk10
    clear hdd h44 h46 hlen
    simp only [List.drop_succ_cons, List.drop_zero]
    go_wp2_with fail
    refine (sappend_any lb a g S (-1) gen u u _ (formB key 1 who t) W10 hL10 hD10 h1 h2 hE46.out (by rw [HLEN.out]; omega) hroom (by omega) (by omega) (by omega) (by omega)).mono ?_
    rintro e w11 hpost
    rcases hpost with ⟨hp, _⟩ | ⟨hp, _⟩ | ⟨_, _, rfl, hD11, hL11, x11⟩
    · omega
    · omega
    have hV11 := vault_x x11 hV10 (by simp [h6, h7, h8])
    have hM11 := map_x x11 hM10 (by simp [h3, h4, h5])
    have r11 := rowAt_x x11 r10 (by simp; omega)
    have c11 := canPut_x x11 c10 (by simp; omega)
    have R11 := rowAt_x x11 R10 (by simp; omega)
    have E11 := elV_x x11 (owV_elV O10) (HOFF.out.1)
    have hD11 : DiskAt w11 a g _ (-1) := hD11
    obtain ⟨c0, c1, c2, f2⟩ := vault_cells hV11
    have k11 : KeptX [a, g, lb, mb] w w11 := xt (xk k10) (xm x11 (by simp))
    clear hV10 hM10 hL10 hD10 r10 c10 R10 O10 hE46
    go_wp2_with fail
    go_still_tail 6, (by kernel_rfl)
    refine wpList_update rfl (.tmp 55) (.tmp 56) (.tmp 57) rfl mb none key ⟨key, ⟨1, who⟩, .slice a9 t.length cp9⟩ rfl rfl rfl (map_kept (kd (k0 _)) hM11) (by intro y z h; cases h) ?_
    intro w12 hM12 x12
    have x12 := xt (xk (kd (k0 w11))) x12
    have c12 := canPut_x x12 c11 (by simp; omega)
    have R12 := rowAt_x x12 R11 (by simp; omega)
    have E12 := elV_x x12 E11 (HOFF.out.2)
    have hD12 := disk_x x12 hD11 (by simp; omega) (by simp; omega)
    have k12 : KeptX [a, g, lb, mb] w w12 := xt k11 (xm x12 (by simp))
    clear c0 c1 c2 f2 hV11 hM11 r11 c11 R11 E11 x11
    go_wp2_with fail
    refine (copied_any ⟨key, ⟨1, who⟩, .slice a9 t.length cp9⟩ t _ E12 (by omega)).mono ?_
    rintro e w13 ⟨v13, rfl, o13, q13⟩
    obtain ⟨a13, cp13, rfl, -, -⟩ := elV_form (owV_elV o13)
    rw [bL_length] at o13 ⊢
    have c13 := canPut_below q13 c12
    have hD13 := disk_kept q13 hD12
    have hro := rowOk_item ⟨key, ⟨1, who⟩, .slice a13 t.length cp13⟩ rfl
    go_wp2_with fail
    refine bodyPost_ret (v := .tuple #[.agg (itemL ⟨key, ⟨1, who⟩, .slice a13 t.length cp13⟩).toArray, .int .i64 0]) (results_row2 (p := 8) (q := 9) rfl _ _ (w.heap.size + 1 + 1) (itemL ⟨key, ⟨1, who⟩, .slice a13 t.length cp13⟩) _ 34 rfl (rowAt_put_same _ _ _ _ _ (by simp) c13) Try.underlying28 rfl (by kernel_rfl)) rfl ⟨⟨_, _, rfl⟩, ?_, ?_⟩
    · exact disk_x (bs := [w.heap.size + 1 + 1]) (xput (x0 _ _) (by simp) _ _) hD13 (by simp; omega) (by simp; omega)
    · exact xdrop (cs := [a, g, lb, mb]) (xput (xt (xm (cs := [a, g, lb, mb, w.heap.size + 1 + 1]) k12 (by simp)) (xk q13)) (by simp) _ _) (by intro k hk; simp at hk; simp; omega)
end Go.Proofs.Ytaifnopoojbcfaa
