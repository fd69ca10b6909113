/- slate.Append, for records of one sector. -/
import Derived.Test.YtaifnopoojbcfaaSlate3
import Derived.Test.YtaifnopoojbcfaaTail
import Derived.StillTailTactics
namespace Go.Proofs.Ytaifnopoojbcfaa
open Go.RowKit
open BigFrame

theorem log_cells {w : World} {lb a gen u n : Nat} {d : Bool} (h : LogAt w lb a gen u n d) :
    w.cell? ⟨lb, 0, none⟩ = some (.pointer (some ⟨a, 0, none⟩)) ∧ w.cell? ⟨lb, 1, none⟩ = some (.int .u64 gen) ∧ w.cell? ⟨lb, 2, none⟩ = some (.int .i64 u) ∧ w.cell? ⟨lb, 3, none⟩ = some (.int .i64 n) ∧ w.cell? ⟨lb, 4, none⟩ = some (.bool d) :=
  ⟨cell_of_row w lb 0 _ _ _ h, cell_of_row w lb 1 _ _ _ h, cell_of_row w lb 2 _ _ _ h, cell_of_row w lb 3 _ _ _ h, cell_of_row w lb 4 _ _ _ h⟩
theorem log_free {w : World} {lb a gen u n : Nat} {d : Bool} (h : LogAt w lb a gen u n d) : w.frozen? ⟨lb, 1, none⟩ = false ∧ w.frozen? ⟨lb, 2, none⟩ = false ∧ w.frozen? ⟨lb, 3, none⟩ = false ∧ w.frozen? ⟨lb, 4, none⟩ = false :=
  ⟨frozen_of_row w lb 1 _ _ h, frozen_of_row w lb 2 _ _ h, frozen_of_row w lb 3 _ _ h, frozen_of_row w lb 4 _ _ h⟩
theorem log_x {bs : List Nat} {w w' : World} (hk : KeptX bs w w') {lb a gen u n : Nat} {d : Bool} (h : LogAt w lb a gen u n d) (hn : lb ∉ bs) : LogAt w' lb a gen u n d := heap_x hk h hn
theorem log_kept {w w' : World} (hk : Kept w w') {lb a gen u n : Nat} {d : Bool} (h : LogAt w lb a gen u n d) : LogAt w' lb a gen u n d := heap_kept hk h
theorem log_lt {w : World} {lb a gen u n : Nat} {d : Bool} (h : LogAt w lb a gen u n d) : lb < w.heap.size := (Array.getElem?_eq_some_iff.1 h).1

theorem log_set {w : World} {lb a gen u n : Nat} {d : Bool} (h : LogAt w lb a gen u n d) (d' : Bool) : LogAt (w.setCell ⟨lb, 4, none⟩ (.bool d')) lb a gen u n d' := heap_setCell_same w lb 4 _ _ _ h
theorem log_gen {w : World} {lb a gen u n : Nat} {d : Bool} (h : LogAt w lb a gen u n d) (x : Nat) : LogAt (w.setCell ⟨lb, 1, none⟩ (.int .u64 x)) lb a x u n d := heap_setCell_same w lb 1 _ _ _ h
theorem log_used {w : World} {lb a gen u n : Nat} {d : Bool} (h : LogAt w lb a gen u n d) (x : Nat) : LogAt (w.setCell ⟨lb, 2, none⟩ (.int .i64 x)) lb a gen x n d := heap_setCell_same w lb 2 _ _ _ h
theorem log_n {w : World} {lb a gen u n : Nat} {d : Bool} (h : LogAt w lb a gen u n d) (x : Nat) : LogAt (w.setCell ⟨lb, 3, none⟩ (.int .i64 x)) lb a gen u x d := heap_setCell_same w lb 3 _ _ _ h
theorem disk_set {w : World} {a g : Nat} {S : List (List UInt8)} {p : Int} (h : DiskAt w a g S p) {q : Addr} (h1 : q.block ≠ a) (h2 : q.block ≠ g) (v : Value) : DiskAt (w.setCell q v) a g S p := by
  obtain ⟨⟨dn, g1⟩, g2, g3⟩ := h
  exact ⟨⟨dn, by rw [Below.heap_setCell _ _ _ _ (Ne.symm h1)]; exact g1⟩, by rw [Below.heap_setCell _ _ _ _ (Ne.symm h2)]; exact g2, g3⟩
theorem pw2 (p : Int) (h : p ≠ 1) : (if 0 < p then p - 2 else p) = (if 0 < (if 0 < p then p - 1 else p) then (if 0 < p then p - 1 else p) - 1 else (if 0 < p then p - 1 else p)) := by
  by_cases h0 : 0 < p
  · have h1 : 0 < p - 1 := by omega
    simp only [h0, h1, if_true]
    omega
  · simp only [h0, if_false]
theorem wrap_i64_in {x : Int} (h1 : 0 ≤ x) (h2 : x ≤ 1000000000) : IntKind.i64.wrap x = x := by
  simp [IntKind.wrap, IntKind.bits, IntKind.signed]
  omega
-- DEF begins
def appDs (lb base gen u n : Nat) (ao : Option Addr) (r : List UInt8) (cap : Nat) : Nat → Value → World → Prop := fun t x W =>
  match t with
  | 85 => x = .pointer (some ⟨lb, 0, none⟩)
  | 86 => x = .pointer (some ⟨lb, 0, none⟩)
  | 87 => x = .pointer (some ⟨lb, 1, none⟩)
  | 88 => x = .int .u64 gen
  | 89 => x = .int .u64 ((gen : Int) + 1)
  | 90 => x = .pointer (some ⟨lb, 0, none⟩)
  | 91 => x = .pointer (some ⟨lb, 0, none⟩)
  | 92 => x = .pointer (some ⟨lb, 2, none⟩)
  | 93 => x = .int .i64 u
  | 94 => x = .slice ao r.length cap
  | 95 => x = .int .i64 r.length
  | 96 => x = .int .i64 1
  | 97 => x = .int .i64 ((u : Int) + 1)
  | 98 => x = .int .u64 ((u : Int) + 1)
  | 99 => x = .pointer (some ⟨lb, 0, none⟩)
  | 100 => x = .pointer (some ⟨lb, 0, none⟩)
  | 101 => x = .pointer (some ⟨lb, 3, none⟩)
  | 102 => x = .int .i64 n
  | 103 => x = .int .i64 ((n : Int) + 1)
  | 104 => x = .int .u64 ((n : Int) + 1)
  | 105 => ElV W x (nL [gen + 1, u + 1, n + 1])
  | 106 => OwV W base 5 x (bL (laidB [gen + 1, u + 1, n + 1]))
  | 9 => OwV W base 5 x (bL (laidB [gen + 1, u + 1, n + 1]))
  | _ => True
theorem elV_three (w : World) (gen u n : Nat) : ElV (w.alloc (.cells #[.int .u64 ((gen : Int) + 1), .int .u64 ((u : Int) + 1), .int .u64 ((n : Int) + 1)] 52)) (.slice (some ⟨w.heap.size, 0, none⟩) 3 3) (nL [gen + 1, u + 1, n + 1]) :=
  owV_elV (owV_made w (nL [gen + 1, u + 1, n + 1]) _ 3 rfl (by unfold maxLen; simp))
-- DEF ends
-- DEF2 begins
def appDt (lb u : Nat) (ao : Option Addr) (r : List UInt8) (cap : Nat) : Nat → Value → World → Prop := fun t x _ =>
  match t with
  | 133 => x = .pointer (some ⟨lb, 0, none⟩)
  | 134 => x = .pointer (some ⟨lb, 0, none⟩)
  | 135 => x = .pointer (some ⟨lb, 2, none⟩)
  | 136 => x = .int .i64 u
  | 137 => x = .slice ao r.length cap
  | 138 => x = .int .i64 r.length
  | 139 => x = .int .i64 1
  | 140 => x = .int .i64 ((u : Int) + 1)
  | 141 => x = .pointer (some ⟨lb, 0, none⟩)
  | 142 => x = .pointer (some ⟨lb, 2, none⟩)
  | _ => True
-- DEF2 ends
def headSec (gen u n : Nat) : List UInt8 := pad (laidB [gen, u, n])
/-- How an append ends: by the power that is left. -/
def AppPost (w : World) (lb a g : Nat) (S : List (List UInt8)) (p : Int) (gen u n : Nat) (r : List UInt8) (e : Ending) (w' : World) : Prop :=
  (p = 0 ∧ e = .returned (.int .i64 8) ∧ DiskAt w' a g S 0 ∧ LogAt w' lb a gen u n true ∧ KeptX [a, g, lb] w w') ∨
  (p = 1 ∧ e = .returned (.int .i64 8) ∧ DiskAt w' a g (S.set (2 + u) (recSec r)) 0 ∧ LogAt w' lb a gen u n true ∧ KeptX [a, g, lb] w w') ∨
  (p ≠ 0 ∧ p ≠ 1 ∧ e = .returned (.int .i64 0) ∧ DiskAt w' a g ((S.set (2 + u) (recSec r)).set ((gen + 1) % 2) (headSec (gen + 1) (u + 1) (n + 1))) (if 0 < p then p - 2 else p) ∧ LogAt w' lb a (gen + 1) (u + 1) (n + 1) false ∧ KeptX [a, g, lb] w w')
theorem bL_hdr (r : List UInt8) (h : r.length ≤ 62) : bL [UInt8.ofNat (r.length / 256), UInt8.ofNat r.length] = [.int .u8 ((r.length : Int) / 256), .int .u8 (r.length : Nat)] := by
  have e : r.length / 256 = 0 := by omega
  have e2 : (r.length : Int) / 256 = 0 := by omega
  rw [e, e2]
  simp [bL, bC, Nat.mod_eq_of_lt (show r.length < 256 by omega)]

set_option maxRecDepth 100000 in
set_option maxHeartbeats 3200000 in
theorem sappend_any (lb a g : Nat) (S : List (List UInt8)) (p : Int) (gen u n : Nat) (v : Value) (r : List UInt8) (w : World) (hl : LogAt w lb a gen u n false) (hd : DiskAt w a g S p) (h1 : lb ≠ a) (h2 : lb ≠ g)
    (hv : ElV w v (bL r)) (hr0 : r.length ≤ 60) (hroom : u + 3 ≤ S.length) (hp1 : -1 ≤ p) (hp2 : p ≤ 1000) (hg : gen ≤ 1000000) (hn : n ≤ 100000) :
    Calls Try.prog 27 #[.pointer (some ⟨lb, 0, none⟩), v] w (AppPost w lb a g S p gen u n r) := by
  have h46 := hd.2.2.2.2
  have hr : r.length ≤ 62 := by omega
  obtain ⟨c0, c1, c2, c3, c4⟩ := log_cells hl
  obtain ⟨ao, cap, rfl, hcap, -⟩ := elV_form hv
  simp only [bL_length] at hv hcap ⊢
  go_enter Try.func27, Try.ntmps27
  go_wp2_with fail
  have f0 := cell_later c0
  have f2 := cell_later c2
  refine wp_region_later (by kernel_rfl) (by kernel_rfl) ?_
  repeat (go_big_quiet_step (first | (go_at_call 35; exact calls_later (need_one _ _ hr)) | (go_at_call 32; exact calls_later (size_any a g S p _ (disk_kept (kept_later _ _) hd)))))
  refine wpQuiet_nil ?_
  rintro w1 q1
  clear f0 f2
  go_wp2_with (at_builtin; refine stop_here ?_)
  refine Stopped.go (wpList_appB rfl (.tmp 46) (.tmp 47) rfl w1.heap.size _ _ [UInt8.ofNat (r.length / 256), UInt8.ofNat r.length] r rfl rfl (by rw [bL_hdr r hr]; exact owV_made w1 [_, _] _ 2 rfl (by unfold maxLen; simp)) (elV_kept (ka q1 _) hv) (by simp; omega) (by simp) ?_)
  intro v2 w2 o2 g2
  have q2 := g2 w1 (ka (k0 _) _) (Nat.le_refl _)
  obtain ⟨b2, cap2, rfl, hc2, hm2, hb2⟩ := owV_form o2 (by simp)
  have hlen : (bL ([UInt8.ofNat (r.length / 256), UInt8.ofNat r.length] ++ r)).length = r.length + 2 := by simp
  rw [hlen] at o2 hc2 ⊢
  have hsz : lb < w1.heap.size ∧ a < w1.heap.size ∧ g < w1.heap.size := ⟨Nat.lt_of_lt_of_le (log_lt hl) q1.size, Nat.lt_of_lt_of_le (disk_lt hd).1 q1.size, Nat.lt_of_lt_of_le (disk_lt hd).2 q1.size⟩
  have q12 := kt q1 q2
  have E2 := Lib.hid (owV_elV o2)
  have HL2 := Lib.hid (log_kept q12 hl)
  have HD2 := Lib.hid (disk_kept q12 hd)
  have Hoff := Lib.hid (show ∀ k, (Value.slice (some ⟨b2, 0, none⟩) (r.length + 2) cap2).ownBlock = some k → k ∉ [a, g] from fun k hk => by
    simp only [Value.ownBlock, Option.some.injEq] at hk
    subst hk
    simp
    omega)
  clear c0 c1 c2 c3 c4 q1 q2 g2 o2 hv hl hd hlen
  go_wp2_with fail
  refine (need_one r.length _ hr).mono ?_
  rintro e w3 ⟨rfl, q3⟩
  go_wp2_with fail
  have q13 := kt q12 q3
  have HE3 := Lib.hid (elV_kept q3 E2.out)
  have HL3 := Lib.hid (log_kept q3 HL2.out)
  have HD3 := Lib.hid (disk_kept q3 HD2.out)
  clear q3 E2 HL2 HD2
  go_loopw [52] (fun iv wr => (iv = .int .i64 0 ∧ wr = w3) ∨ (iv = .int .i64 1 ∧ p ≠ 0 ∧ LogAt wr lb a gen u n false ∧ DiskAt wr a g (S.set (2 + u) (recSec r)) (if 0 < p then p - 1 else p) ∧ KeptX [a, g, lb] w wr)) (fun iv _ => 1 - (intOf iv).toNat)
  case atStart => exact .inl ⟨rfl, rfl⟩
  case round =>
    rcases hrel with ⟨rfl, rfl⟩ | ⟨rfl, hp0, hL, hD, hX⟩
    · obtain ⟨c0, c1, c2, c3, c4⟩ := log_cells HL3.out
      have m1 : (r.length : Int) + 2 < 64 := by omega
      have m2 : ((r.length : Int) + 2).toNat = r.length + 2 := by omega
      have nc : (cap2 = 0) = False := by simp; omega
      go_wp2_with fail
      go_still_tail 12, (by kernel_rfl)
      by_cases hp0 : p = 0
      · subst hp0
        have CW := Lib.hid fun (W : World) (hk : Kept wr W) => write_down a g S (2 + u) _ _ W (disk_kept hk HD3.out) (by omega) (elV_kept hk HE3.out) (by simp; omega)
        rw [show ((2 + u : Nat) : Int) = 2 + (u : Int) by omega] at CW
        go_wp2_with fail
        refine (CW.out _ (kd (k0 _))).mono ?_
        rintro e w4 ⟨rfl, q4⟩
        have q4 := kt (kd (k0 wr)) q4
        have hL4 := log_kept q4 HL3.out
        have hD4 := disk_kept q4 HD3.out
        obtain ⟨c0, c1, c2, c3, c4⟩ := log_cells hL4
        obtain ⟨f1, f2, f3, f4⟩ := log_free hL4
        go_wp2_with fail
        go_ret
        exact .inl ⟨rfl, rfl, disk_set hD4 h1 h2 _, log_set hL4 true, xset (xk (kt q13 q4)) (by simp) _⟩
      · have CW := Lib.hid fun (W : World) (hk : Kept wr W) => write_ok a g S p (2 + u) _ _ W (disk_kept hk HD3.out) (by omega) (elV_kept hk HE3.out) (by simp; omega) hp0 hp1 (by omega) Hoff.out
        rw [show ((2 + u : Nat) : Int) = 2 + (u : Int) by omega] at CW
        go_wp2_with fail
        refine (CW.out _ (kd (k0 _))).mono ?_
        rintro e w4 ⟨rfl, hD4, x4⟩
        have x4 := xt (xk (kd (k0 wr))) x4
        have hL4 := log_x x4 HL3.out (by simp [h1, h2])
        have x4' := xt (xk q13) (xm x4 (cs := [a, g, lb]) (by simp))
        go_wp2_with fail
        go_roundw
        case rel => exact .inr ⟨rfl, hp0, hL4, hD4, x4'⟩
        case measure => simp [intOf]
    · go_wp2_with fail
      have wg : IntKind.u64.wrap ((gen : Int) + 1) = (gen : Int) + 1 := by rw [IntKind.wrap_u64]; omega
      have wu2 : IntKind.u64.wrap ((u : Int) + 1) = (u : Int) + 1 := by rw [IntKind.wrap_u64]; omega
      have wn2 : IntKind.u64.wrap ((n : Int) + 1) = (n : Int) + 1 := by rw [IntKind.wrap_u64]; omega
      have wu : IntKind.i64.wrap ((u : Int) + 1) = (u : Int) + 1 := wrap_i64_in (by omega) (by omega)
      have wn : IntKind.i64.wrap ((n : Int) + 1) = (n : Int) + 1 := wrap_i64_in (by omega) (by omega)
      refine wp_region_loose (appDs lb wr.heap.size gen u n ao r cap) ?mk (by kernel_rfl) (by kernel_rfl) ?hmk ?hmono ?hstep ?hQ
      case hmk =>
        intro f
        simp only [mkOf, List.foldl, Act.put, List.setIfInBounds_toArray, List.set_cons_zero, List.set_cons_succ]
        rfl
      case hmono =>
        intro t x W1 W2 h hk
        unfold appDs at h ⊢
        split <;> simp only at h ⊢ <;> first | exact h | exact elV_kept hk h | exact owV_kept hk h
-- STEPS begins
      case hstep =>
        refine ⟨?s0, ?s1, ?s2, ?s3, ?s4, ?s5, ?s6, ?s7, ?s8, ?s9, ?s10, ?s11, ?s12, ?s13, ?s14, ?s15, ?s16, ?s17, ?s18, ?s19, ?s20, ?s21, ?s22, trivial⟩
        case s0 =>
          intro f W2 hk hd
          rw [if_pos (by kernel_rfl)]
          intro K hK
          go_simp
          exact hK _ _ ⟨.pointer (some ⟨lb, 0, none⟩), by simp [Act.put], k0 _, fun t ht => by obtain rfl := Option.some.inj ht; exact rfl⟩
        case s1 =>
          intro f W2 hk hd
          have h85 : f 85 = .pointer (some ⟨lb, 0, none⟩) := dep hd 85 (by kernel_rfl)
          rw [if_pos (by kernel_rfl)]
          intro K hK
          go_simp
          exact hK _ _ ⟨.pointer (some ⟨lb, 0, none⟩), by simp [Act.put, h85], k0 _, fun t ht => by obtain rfl := Option.some.inj ht; exact rfl⟩
        case s2 =>
          intro f W2 hk hd
          have h86 : f 86 = .pointer (some ⟨lb, 0, none⟩) := dep hd 86 (by kernel_rfl)
          rw [if_pos (by kernel_rfl)]
          intro K hK
          go_simp
          exact hK _ _ ⟨.pointer (some ⟨lb, 1, none⟩), by simp [Act.put, h86], k0 _, fun t ht => by obtain rfl := Option.some.inj ht; exact rfl⟩
        case s3 =>
          intro f W2 hk hd
          have h87 : f 87 = .pointer (some ⟨lb, 1, none⟩) := dep hd 87 (by kernel_rfl)
          rw [if_pos (by kernel_rfl)]
          intro K hK
          obtain ⟨c0, c1, c2, c3, c4⟩ := log_cells (log_kept hk hL)
          go_simp
          exact hK _ _ ⟨.int .u64 gen, by simp [Act.put, h87], k0 _, fun t ht => by obtain rfl := Option.some.inj ht; exact rfl⟩
        case s4 =>
          intro f W2 hk hd
          have h88 : f 88 = .int .u64 gen := dep hd 88 (by kernel_rfl)
          rw [if_pos (by kernel_rfl)]
          intro K hK
          go_simp
          exact hK _ _ ⟨.int .u64 ((gen : Int) + 1), by simp [Act.put, h88], k0 _, fun t ht => by obtain rfl := Option.some.inj ht; exact rfl⟩
        case s5 =>
          intro f W2 hk hd
          rw [if_pos (by kernel_rfl)]
          intro K hK
          go_simp
          exact hK _ _ ⟨.pointer (some ⟨lb, 0, none⟩), by simp [Act.put], k0 _, fun t ht => by obtain rfl := Option.some.inj ht; exact rfl⟩
        case s6 =>
          intro f W2 hk hd
          have h90 : f 90 = .pointer (some ⟨lb, 0, none⟩) := dep hd 90 (by kernel_rfl)
          rw [if_pos (by kernel_rfl)]
          intro K hK
          go_simp
          exact hK _ _ ⟨.pointer (some ⟨lb, 0, none⟩), by simp [Act.put, h90], k0 _, fun t ht => by obtain rfl := Option.some.inj ht; exact rfl⟩
        case s7 =>
          intro f W2 hk hd
          have h91 : f 91 = .pointer (some ⟨lb, 0, none⟩) := dep hd 91 (by kernel_rfl)
          rw [if_pos (by kernel_rfl)]
          intro K hK
          go_simp
          exact hK _ _ ⟨.pointer (some ⟨lb, 2, none⟩), by simp [Act.put, h91], k0 _, fun t ht => by obtain rfl := Option.some.inj ht; exact rfl⟩
        case s8 =>
          intro f W2 hk hd
          have h92 : f 92 = .pointer (some ⟨lb, 2, none⟩) := dep hd 92 (by kernel_rfl)
          rw [if_pos (by kernel_rfl)]
          intro K hK
          obtain ⟨c0, c1, c2, c3, c4⟩ := log_cells (log_kept hk hL)
          go_simp
          exact hK _ _ ⟨.int .i64 u, by simp [Act.put, h92], k0 _, fun t ht => by obtain rfl := Option.some.inj ht; exact rfl⟩
        case s9 =>
          intro f W2 hk hd
          rw [if_pos (by kernel_rfl)]
          intro K hK
          go_simp
          exact hK _ _ ⟨.slice ao r.length cap, by simp [Act.put], k0 _, fun t ht => by obtain rfl := Option.some.inj ht; exact rfl⟩
        case s10 =>
          intro f W2 hk hd
          have h94 : f 94 = .slice ao r.length cap := dep hd 94 (by kernel_rfl)
          rw [if_pos (by kernel_rfl)]
          intro K hK
          go_simp
          exact hK _ _ ⟨.int .i64 r.length, by simp [Act.put, h94], k0 _, fun t ht => by obtain rfl := Option.some.inj ht; exact rfl⟩
        case s11 =>
          intro f W2 hk hd
          have h95 : f 95 = .int .i64 r.length := dep hd 95 (by kernel_rfl)
          rw [if_pos (by kernel_rfl)]
          intro K hK
          go_simp
          refine (need_one _ _ hr).mono ?_
          rintro e w' ⟨rfl, hkk⟩
          exact hK _ _ ⟨.int .i64 1, by simp [Act.put, h95], hkk, fun t ht => by obtain rfl := Option.some.inj ht; exact rfl⟩
        case s12 =>
          intro f W2 hk hd
          have h93 : f 93 = .int .i64 u := dep hd 93 (by kernel_rfl)
          have h96 : f 96 = .int .i64 1 := dep hd 96 (by kernel_rfl)
          rw [if_pos (by kernel_rfl)]
          intro K hK
          go_simp
          exact hK _ _ ⟨.int .i64 ((u : Int) + 1), by simp [Act.put, h93, h96], k0 _, fun t ht => by obtain rfl := Option.some.inj ht; exact rfl⟩
        case s13 =>
          intro f W2 hk hd
          have h97 : f 97 = .int .i64 ((u : Int) + 1) := dep hd 97 (by kernel_rfl)
          rw [if_pos (by kernel_rfl)]
          intro K hK
          go_simp
          exact hK _ _ ⟨.int .u64 ((u : Int) + 1), by simp [Act.put, h97], k0 _, fun t ht => by obtain rfl := Option.some.inj ht; exact rfl⟩
        case s14 =>
          intro f W2 hk hd
          rw [if_pos (by kernel_rfl)]
          intro K hK
          go_simp
          exact hK _ _ ⟨.pointer (some ⟨lb, 0, none⟩), by simp [Act.put], k0 _, fun t ht => by obtain rfl := Option.some.inj ht; exact rfl⟩
        case s15 =>
          intro f W2 hk hd
          have h99 : f 99 = .pointer (some ⟨lb, 0, none⟩) := dep hd 99 (by kernel_rfl)
          rw [if_pos (by kernel_rfl)]
          intro K hK
          go_simp
          exact hK _ _ ⟨.pointer (some ⟨lb, 0, none⟩), by simp [Act.put, h99], k0 _, fun t ht => by obtain rfl := Option.some.inj ht; exact rfl⟩
        case s16 =>
          intro f W2 hk hd
          have h100 : f 100 = .pointer (some ⟨lb, 0, none⟩) := dep hd 100 (by kernel_rfl)
          rw [if_pos (by kernel_rfl)]
          intro K hK
          go_simp
          exact hK _ _ ⟨.pointer (some ⟨lb, 3, none⟩), by simp [Act.put, h100], k0 _, fun t ht => by obtain rfl := Option.some.inj ht; exact rfl⟩
        case s17 =>
          intro f W2 hk hd
          have h101 : f 101 = .pointer (some ⟨lb, 3, none⟩) := dep hd 101 (by kernel_rfl)
          rw [if_pos (by kernel_rfl)]
          intro K hK
          obtain ⟨c0, c1, c2, c3, c4⟩ := log_cells (log_kept hk hL)
          go_simp
          exact hK _ _ ⟨.int .i64 n, by simp [Act.put, h101], k0 _, fun t ht => by obtain rfl := Option.some.inj ht; exact rfl⟩
        case s18 =>
          intro f W2 hk hd
          have h102 : f 102 = .int .i64 n := dep hd 102 (by kernel_rfl)
          rw [if_pos (by kernel_rfl)]
          intro K hK
          go_simp
          exact hK _ _ ⟨.int .i64 ((n : Int) + 1), by simp [Act.put, h102], k0 _, fun t ht => by obtain rfl := Option.some.inj ht; exact rfl⟩
        case s19 =>
          intro f W2 hk hd
          have h103 : f 103 = .int .i64 ((n : Int) + 1) := dep hd 103 (by kernel_rfl)
          rw [if_pos (by kernel_rfl)]
          intro K hK
          go_simp
          exact hK _ _ ⟨.int .u64 ((n : Int) + 1), by simp [Act.put, h103], k0 _, fun t ht => by obtain rfl := Option.some.inj ht; exact rfl⟩
        case s20 =>
          intro f W2 hk hd
          have h89 : f 89 = .int .u64 ((gen : Int) + 1) := dep hd 89 (by kernel_rfl)
          have h98 : f 98 = .int .u64 ((u : Int) + 1) := dep hd 98 (by kernel_rfl)
          have h104 : f 104 = .int .u64 ((n : Int) + 1) := dep hd 104 (by kernel_rfl)
          rw [if_pos (by kernel_rfl)]
          intro K hK
          go_simp
          exact hK _ _ ⟨.slice (some ⟨W2.heap.size, 0, none⟩) 3 3, by simp [Act.put, h89, h98, h104], ka (k0 _) _, fun t ht => by obtain rfl := Option.some.inj ht; exact elV_three W2 gen u n⟩
        case s21 =>
          intro f W2 hk hd
          obtain h105 : ElV W2 (f 105) (nL [gen + 1, u + 1, n + 1]) := dep hd 105 (by kernel_rfl)
          rw [if_pos (by kernel_rfl)]
          intro K hK
          go_simp
          refine (laid_any (f 105) [gen + 1, u + 1, n + 1] _ h105 (by intro m hm; simp at hm; omega) (by simp)).mono ?_
          rintro e w' ⟨v', rfl, hi, hkk⟩
          exact hK _ _ ⟨v', by simp [Act.put], hkk, fun t ht => by obtain rfl := Option.some.inj ht; exact owV_mono hi hk.size⟩
        case s22 =>
          intro f W2 hk hd
          obtain h106 : OwV W2 wr.heap.size 5 (f 106) (bL (laidB [gen + 1, u + 1, n + 1])) := dep hd 106 (by kernel_rfl)
          rw [if_pos (by kernel_rfl)]
          intro K hK
          go_simp
          exact hK _ _ ⟨f 106, by simp [Act.put], k0 _, fun t ht => by obtain rfl := Option.some.inj ht; exact h106⟩
-- STEPS ends
      case hQ =>
        intro f W2 hk hdd
        have h9 : OwV W2 wr.heap.size 5 (f 9) (bL (laidB [gen + 1, u + 1, n + 1])) := hdd 9 (dst_of (by kernel_rfl))
        generalize f 9 = v9 at h9 ⊢
        have hll : (laidB [gen + 1, u + 1, n + 1]).length = 24 := by rw [laidB_length]; rfl
        obtain ⟨b9, cap9, rfl, hc9, hm9, hb9⟩ := owV_form h9 (by rw [bL_length, hll]; omega)
        rw [bL_length, hll] at h9 hc9 ⊢
        have hL2 := log_kept hk hL
        have hD2 := disk_kept hk hD
        have hX2 := xt hX (xk hk)
        have hsz2 : lb < wr.heap.size ∧ a < wr.heap.size ∧ g < wr.heap.size := ⟨log_lt hL, (disk_lt hD).1, (disk_lt hD).2⟩
        have Hoff9 := Lib.hid (show ∀ k, (Value.slice (some ⟨b9, 0, none⟩) 24 cap9).ownBlock = some k → k ∉ [a, g] from fun k hk => by
          simp only [Value.ownBlock, Option.some.injEq] at hk
          subst hk
          simp
          omega)
        have HE9 := Lib.hid (owV_elV h9)
        have hmod : ((((gen + 1) % 2 : Nat)) : Int) = ((gen : Int) + 1) % 2 := by omega
        have hm2 : (gen + 1) % 2 < 2 := Nat.mod_lt _ (by omega)
        have HM := Lib.hid hmod
        have HLL := Lib.hid hll
        clear hmod hll hdd h9 hL hD hX
        obtain ⟨c0, c1, c2, c3, c4⟩ := log_cells hL2
        go_wp2_with fail
        go_still_tail 12, (by kernel_rfl)
        by_cases hpo : p = 1
        · subst hpo
          have hD3 : DiskAt W2 a g (S.set (2 + u) (recSec r)) 0 := by simpa using hD2
          have CW := Lib.hid fun (W : World) (hk : Kept W2 W) => write_down a g _ ((gen + 1) % 2) _ _ W (disk_kept hk hD3) (by simp; omega) (elV_kept hk HE9.out) (by rw [HLL.out]; omega)
          rw [HM.out] at CW
          go_wp2_with fail
          refine (CW.out _ (kd (k0 _))).mono ?_
          rintro e w4 ⟨rfl, q4⟩
          have q4 := kt (kd (k0 W2)) q4
          have hL4 := log_kept q4 hL2
          have hD4 := disk_kept q4 hD3
          obtain ⟨c0, c1, c2, c3, c4⟩ := log_cells hL4
          obtain ⟨f1, f2, f3, f4⟩ := log_free hL4
          go_wp2_with fail
          go_ret
          exact .inr (.inl ⟨rfl, rfl, disk_set hD4 h1 h2 _, log_set hL4 true, xset (xt hX2 (xk q4)) (by simp) _⟩)
        · have CW := Lib.hid fun (W : World) (hk : Kept W2 W) => write_ok a g _ _ ((gen + 1) % 2) _ _ W (disk_kept hk hD2) (by simp; omega) (elV_kept hk HE9.out) (by rw [HLL.out]; omega) (by split <;> omega) (by split <;> omega) (by split <;> omega) Hoff9.out
          rw [HM.out] at CW
          go_wp2_with fail
          refine (CW.out _ (kd (k0 _))).mono ?_
          rintro e w4 ⟨rfl, hD4, x4⟩
          have x4 := xt (xk (kd (k0 W2))) x4
          have hL4 := log_x x4 hL2 (by simp [h1, h2])
          have x4' := xt hX2 (xm x4 (cs := [a, g, lb]) (by simp))
          obtain ⟨c0, c1, c2, c3, c4⟩ := log_cells hL4
          obtain ⟨f1, f2, f3, f4⟩ := log_free hL4
          go_wp2_with fail
          refine wp_any_world (fun W => LogAt W lb a (gen + 1) u n false ∧ DiskAt W a g ((S.set (2 + u) (recSec r)).set ((gen + 1) % 2) (headSec (gen + 1) (u + 1) (n + 1))) (if 0 < p then p - 2 else p) ∧ KeptX [a, g, lb] w W) ⟨log_gen hL4 (gen + 1), disk_set (by rw [pw2 p hpo]; exact hD4) h1 h2 _, xset x4' (by simp) _⟩ ?_
          rintro W5 ⟨hL5, hD5, hX5⟩
          clear c0 c1 c2 c3 c4 f1 f2 f3 f4
          refine wp_region_tail 10 (appDt lb u ao r cap) ?mk2 (by kernel_rfl) (by kernel_rfl) ?hmk ?hmono ?hstep ?hQ
          case hmk =>
            intro f
            simp only [mkOf, List.take_succ_cons, List.take_zero, List.foldl, Act.put, List.setIfInBounds_toArray, List.set_cons_zero, List.set_cons_succ]
            rfl
          case hmono =>
            intro t x W1 W2 h hk
            unfold appDt at h ⊢
            split <;> simp only at h ⊢ <;> exact h
-- STEPS2 begins
          case hstep =>
            refine ⟨?s0, ?s1, ?s2, ?s3, ?s4, ?s5, ?s6, ?s7, ?s8, ?s9, trivial⟩
            case s0 =>
              intro f W2 hk hd
              rw [if_pos (by kernel_rfl)]
              intro K hK
              go_simp
              exact hK _ _ ⟨.pointer (some ⟨lb, 0, none⟩), by simp [Act.put], k0 _, fun t ht => by obtain rfl := Option.some.inj ht; exact rfl⟩
            case s1 =>
              intro f W2 hk hd
              have h133 : f 133 = .pointer (some ⟨lb, 0, none⟩) := dep hd 133 (by kernel_rfl)
              rw [if_pos (by kernel_rfl)]
              intro K hK
              go_simp
              exact hK _ _ ⟨.pointer (some ⟨lb, 0, none⟩), by simp [Act.put, h133], k0 _, fun t ht => by obtain rfl := Option.some.inj ht; exact rfl⟩
            case s2 =>
              intro f W2 hk hd
              have h134 : f 134 = .pointer (some ⟨lb, 0, none⟩) := dep hd 134 (by kernel_rfl)
              rw [if_pos (by kernel_rfl)]
              intro K hK
              go_simp
              exact hK _ _ ⟨.pointer (some ⟨lb, 2, none⟩), by simp [Act.put, h134], k0 _, fun t ht => by obtain rfl := Option.some.inj ht; exact rfl⟩
            case s3 =>
              intro f W2 hk hd
              have h135 : f 135 = .pointer (some ⟨lb, 2, none⟩) := dep hd 135 (by kernel_rfl)
              rw [if_pos (by kernel_rfl)]
              intro K hK
              obtain ⟨c0, c1, c2, c3, c4⟩ := log_cells (log_kept hk hL5)
              go_simp
              exact hK _ _ ⟨.int .i64 u, by simp [Act.put, h135], k0 _, fun t ht => by obtain rfl := Option.some.inj ht; exact rfl⟩
            case s4 =>
              intro f W2 hk hd
              rw [if_pos (by kernel_rfl)]
              intro K hK
              go_simp
              exact hK _ _ ⟨.slice ao r.length cap, by simp [Act.put], k0 _, fun t ht => by obtain rfl := Option.some.inj ht; exact rfl⟩
            case s5 =>
              intro f W2 hk hd
              have h137 : f 137 = .slice ao r.length cap := dep hd 137 (by kernel_rfl)
              rw [if_pos (by kernel_rfl)]
              intro K hK
              go_simp
              exact hK _ _ ⟨.int .i64 r.length, by simp [Act.put, h137], k0 _, fun t ht => by obtain rfl := Option.some.inj ht; exact rfl⟩
            case s6 =>
              intro f W2 hk hd
              have h138 : f 138 = .int .i64 r.length := dep hd 138 (by kernel_rfl)
              rw [if_pos (by kernel_rfl)]
              intro K hK
              go_simp
              refine (need_one _ _ hr).mono ?_
              rintro e w' ⟨rfl, hkk⟩
              exact hK _ _ ⟨.int .i64 1, by simp [Act.put, h138], hkk, fun t ht => by obtain rfl := Option.some.inj ht; exact rfl⟩
            case s7 =>
              intro f W2 hk hd
              have h136 : f 136 = .int .i64 u := dep hd 136 (by kernel_rfl)
              have h139 : f 139 = .int .i64 1 := dep hd 139 (by kernel_rfl)
              rw [if_pos (by kernel_rfl)]
              intro K hK
              go_simp
              exact hK _ _ ⟨.int .i64 ((u : Int) + 1), by simp [Act.put, h136, h139], k0 _, fun t ht => by obtain rfl := Option.some.inj ht; exact rfl⟩
            case s8 =>
              intro f W2 hk hd
              have h133 : f 133 = .pointer (some ⟨lb, 0, none⟩) := dep hd 133 (by kernel_rfl)
              rw [if_pos (by kernel_rfl)]
              intro K hK
              go_simp
              exact hK _ _ ⟨.pointer (some ⟨lb, 0, none⟩), by simp [Act.put, h133], k0 _, fun t ht => by obtain rfl := Option.some.inj ht; exact rfl⟩
            case s9 =>
              intro f W2 hk hd
              have h141 : f 141 = .pointer (some ⟨lb, 0, none⟩) := dep hd 141 (by kernel_rfl)
              rw [if_pos (by kernel_rfl)]
              intro K hK
              go_simp
              exact hK _ _ ⟨.pointer (some ⟨lb, 2, none⟩), by simp [Act.put, h141], k0 _, fun t ht => by obtain rfl := Option.some.inj ht; exact rfl⟩
-- STEPS2 ends
          case hQ =>
            intro f W6 hk6 hdd
            have h140 : f 140 = .int .i64 ((u : Int) + 1) := hdd 140 (dst_of (by kernel_rfl))
            have h142 : f 142 = .pointer (some ⟨lb, 2, none⟩) := hdd 142 (dst_of (by kernel_rfl))
            have hL6 := log_kept hk6 hL5
            have hD6 := disk_kept hk6 hD5
            obtain ⟨c0, c1, c2, c3, c4⟩ := log_cells hL6
            obtain ⟨f1, f2, f3, f4⟩ := log_free hL6
            rw [h140, h142]
            simp only [List.drop_succ_cons, List.drop_zero]
            have hL7 := log_n (log_used hL6 (u + 1)) (n + 1)
            clear hdd h140 h142
            go_wp2_with fail
            go_ret
            exact .inr (.inr ⟨hp0, hpo, rfl, disk_set (disk_set hD6 h1 h2 _) h1 h2 _, hL7, xset (xset (xt hX5 (xk hk6)) (by simp) _) (by simp) _⟩)
end Go.Proofs.Ytaifnopoojbcfaa
