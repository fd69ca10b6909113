/- CopiesComes: the walk. -/
import Derived.Test.YtdbmggdnbdcanaaRises
namespace Go.Proofs.Ytdbmggdnbdcanaa
open Go.RowKit
open BigFrame

/-- How many of the first n are nearer to k than r says. -/
def nearCount (k : Id) (l : List Id) (r : Nat) : Nat → Nat
  | 0 => 0
  | n + 1 => nearCount k l r n + if rank k (l.getD n 0) < r then 1 else 0
theorem count_mono (k : Id) (l : List Id) {r r' : Nat} (h : r ≤ r') : ∀ n, nearCount k l r n ≤ nearCount k l r' n
  | 0 => Nat.le_refl _
  | n + 1 => by
    have := count_mono k l h n
    rw [nearCount, nearCount]
    split <;> split <;> omega
theorem count_lt (k : Id) (l : List Id) {r r' : Nat} (h : r ≤ r') (i : Nat) (h1 : ¬ rank k (l.getD i 0) < r) (h2 : rank k (l.getD i 0) < r') : ∀ n, i < n → nearCount k l r n < nearCount k l r' n
  | 0, hi => absurd hi (by omega)
  | n + 1, hi => by
    rw [nearCount, nearCount]
    by_cases e : i = n
    · subst e
      have := count_mono k l h i
      rw [if_neg h1, if_pos h2]
      omega
    · have := count_lt k l h i h1 h2 n (by omega)
      split <;> split <;> omega
theorem count_le (k : Id) (l : List Id) (r : Nat) : ∀ n, nearCount k l r n ≤ n
  | 0 => Nat.le_refl _
  | n + 1 => by
    have := count_le k l r n
    rw [nearCount]
    split <;> omega
theorem count_self (k : Id) (l : List Id) (i : Nat) : ∀ n, i < n → nearCount k l (rank k (l.getD i 0)) n < n
  | 0, hi => absurd hi (by omega)
  | n + 1, hi => by
    rw [nearCount]
    by_cases e : i = n
    · subst e
      have := count_le k l (rank k (l.getD i 0)) i
      rw [if_neg (by omega)]
      omega
    · have := count_self k l i n (by omega)
      split <;> omega
/-- One hand on: fewer are nearer. -/
theorem count_step {k a g : Id} {l : List Id} (hg : g ∈ l) (h : rank k g < rank k a) : nearCount k l (rank k g) l.length < nearCount k l (rank k a) l.length := by
  obtain ⟨i, hi, rfl⟩ := List.getElem_of_mem hg
  have e : l.getD i 0 = l[i] := by simp [List.getD, hi]
  exact count_lt k l (by omega) i (by rw [e]; omega) (by rw [e]; exact h) l.length hi

theorem wp_any_world_then {p : World → Prop} {w : World} (S : World → Prop) (h0 : S w) (h : ∀ W, S W → p W) : p w := h w h0

theorem at_any (y : Int) (n : Nat) (hn : 0 < n) (hn2 : n ≤ 16) : ∃ t : Nat, t < n ∧ wrap64 ((IntKind.u64.wrap y).tmod (n : Int)) = (t : Int) := by
  have h0 : 0 ≤ IntKind.u64.wrap y := by
    simp [IntKind.wrap, IntKind.bits, IntKind.signed]
    omega
  generalize IntKind.u64.wrap y = u at h0
  rw [Int.tmod_eq_emod_of_nonneg h0]
  have h1 : 0 ≤ u % (n : Int) := Int.emod_nonneg _ (by omega)
  have h2 : u % (n : Int) < n := Int.emod_lt_of_pos _ (by omega)
  have e1 : wrap64 (u % (n : Int)) = u % (n : Int) := by
    generalize u % (n : Int) = m at *
    unfold wrap64; omega
  exact ⟨(u % (n : Int)).toNat, by omega, by rw [e1]; omega⟩

set_option maxHeartbeats 12800000 in
theorem comes_any (v : Value) (x y : Int) (key : Id) (l : List Id) (w : World) (hv : IdsV w v l) (hlm : ∀ ao n cap, v = .slice ao n cap → n ≤ cap) :
    Calls Try.prog 5 #[v, .agg (idL key).toArray, .agg #[.int .i64 x, .int .i64 y]] w fun e w' => e = .returned (.bool true) ∧ Kept w w' := by
  have hc : (l.take 16).length ≤ 16 := by rw [List.length_take]; omega
  generalize hcl : l.take 16 = c at hc
  have hcl' := Lib.hid hcl
  clear hcl
  go_enter Try.func5, Try.ntmps5
  go_wp2_with fail
  go_quiet (fail)
  refine wp_any_world_then (fun W => Kept w W ∧ rowAt W w.heap.size 0 16 = some (idL key)) ⟨kdn (ka (ka (k0 w) _) _) _, by go_simp⟩ ?_
  rintro W ⟨q0, s0⟩
  have hv0 := idsV_kept q0 hv
  go_wp2_with (go_at_call 6; refine (cut_any v l 16 _ hv0 (by omega) hlm).mono ?_; rintro e w1 ⟨v1, rfl, hv1, q1⟩; refine stop_here ?_)
  refine Stopped.go ?_
  rw [hcl'.out] at hv1
  have s2 := rowAt_below q1 s0
  have k1 := kt q0 q1
  clear q1 q0 s0 hv0
  obtain ⟨ao, cap, rfl, hO⟩ := idsV_form hv1
  by_cases h0 : c.length = 0
  · have n0 : ((c.length : Int) == 0) = true := by rw [h0]; rfl
    clear h0
    go_wp2_with (go_at_call 8; refine (fixed_any _).mono ?_; rintro e w9 ⟨rfl, q9⟩)
    go_ret
    exact ⟨rfl, kt k1 q9⟩
  · have n0 : ((c.length : Int) == 0) = false := by rw [beq_eq_false_iff_ne]; omega
    obtain ⟨b, off, rfl, hr⟩ := idsO_at hO (i := 0) (by omega)
    obtain ⟨h, hh1, hh2, hE⟩ := half_any x
    obtain ⟨t, ht, hT⟩ := at_any y c.length (by omega) hc
    have i1 : (t : Int) < (c.length : Int) := by omega
    have r1 := hr t ht
    have e1 : c.getD t 0 = c[t] := by simp [List.getD, ht]
    rw [e1] at r1
    have ha0 : c[t] ∈ c := List.getElem_mem ht
    have hc0 := count_self key c t c.length ht
    rw [e1] at hc0
    obtain ⟨a0, hca⟩ : ∃ a, c[t] = a := ⟨_, rfl⟩
    rw [hca] at r1 ha0 hc0
    clear e1 hca
    have hc0' := Lib.hid hc0
    clear hc0
    go_wp2_with fail
    obtain ⟨j, hj, hjl, hjm⟩ := first_min key c (by omega)
    rw [hE]
    clear hT hE
    generalize wrap64 ((IntKind.u64.wrap x).tmod 3) = x3
    generalize (IntKind.u64.wrap x).tmod 3 = x2
    generalize IntKind.u64.wrap x = x1
    generalize (IntKind.u64.wrap y).tmod (c.length : Int) = y2
    generalize IntKind.u64.wrap y = y1
    have hj' := Lib.hid hj
    have hjm' := Lib.hid hjm
    clear hj hjm
    go_loopw [39] (fun iv wr => ∃ (n : Nat) (a : Id), n ≤ c.length ∧ iv = .int .i64 n ∧ a ∈ c ∧ Hid (nearCount key c (rank key a) c.length + n < c.length) ∧ Kept w1 wr ∧ rowAt wr w1.heap.size 0 16 = some (idL a) ∧ canPut wr w1.heap.size 0 16 = true) (fun iv _ => c.length - (intOf iv).toNat)
    case atStart => exact ⟨0, a0, by omega, rfl, ha0, by rw [Hid]; exact hc0'.out, ka (k0 _) _, by go_simp, by go_simp⟩
    case round =>
      obtain ⟨n, a, hn, rfl, ha, H, q, sA, cA⟩ := hrel
      by_cases hlt : n < c.length
      · have n1 : (n : Int) < (c.length : Int) := by omega
        have sK := rowAt_below q s2
        have vC := idsV_kept q hv1
        go_wp2_with (go_at_call 14; refine (want_any a _ h c _ vC (by omega)).mono ?_; rintro e w4 ⟨v9, rfl, vF, q4⟩; refine stop_here ?_)
        refine Stopped.go ?_
        have sA4 := rowAt_below q4 sA
        have cA4 := canPut_below q4 cA
        have sK4 := rowAt_below q4 sK
        have q5 := kt q q4
        have hfl : (wantR a h c).length ≤ 16 := by
          have h1 := wantN_length a h (sortR a c c.length) (sortR a c c.length).length
          have h2 := sortR_length a c c.length
          have h3 : (wantR a h c).length = (wantN a h (sortR a c c.length) (sortR a c c.length).length).length := rfl
          omega
        by_cases hna : c.getD j 0 = a
        · obtain ⟨hroot, _⟩ := rises_near (a := a) (key := key) (half := h) (l := c) (fun y hy => by rw [← hna]; exact hjm'.out y hy)
          have L := root_any a v9 key (wantR a h c) w4 vF (by omega)
          rw [best_root, hroot] at L
          have L' := Lib.hid L
          clear L hroot
          go_wp2_with (go_at_call 9; refine L'.out.mono ?_; rintro e w6 ⟨rfl, q6⟩; refine stop_here ?_)
          refine Stopped.go ?_
          have sA6 := rowAt_below q6 sA4
          have sK6 := rowAt_below q6 sK4
          have vC6 := idsV_kept (kt q5 q6) hv1
          have r6 := rowAt_below (kt q5 q6) (hr j hjl)
          rw [hna] at r6
          have q7 := kt q5 q6
          have j1 : (j : Int) < (c.length : Int) := by omega
          have LN : ∀ W, IdsV W (.slice (some ⟨b, off, none⟩) c.length cap) c → Calls Try.prog 15 #[.agg (idL key).toArray, .slice (some ⟨b, off, none⟩) c.length cap] W fun e w' => e = .returned (.int .i64 j) ∧ Kept W w' := fun W hW => by rw [← hj'.out]; exact first_any key _ c W hW (by omega)
          have LN' := Lib.hid LN
          have f1 := rowAt_later sA6
          have f2 := rowAt_later sK6
          have f3 := rowAt_later r6
          clear LN hna sA4 sK4 q5 q6
          go_wp2_with fail
          refine wp_region_later (by kernel_rfl) (by kernel_rfl) ?_
          repeat (go_big_quiet_step (first | (go_at_call 8; exact calls_later (fixed_any _)) | (go_at_call 15; exact calls_later (LN'.out _ (idsV_kept (kept_later _ _) vC6)))))
          refine wpQuiet_nil ?_
          rintro w7 q8
          go_wp2_with fail
          go_ret
          exact ⟨by simp, kt k1 (kt q7 q8)⟩
        · have hnc : c.getD j 0 ∈ c := by simp [List.getD, hjl]
          obtain ⟨hroot, g, ho, hgc, hgr⟩ := rises_far (a := a) (key := key) (n := c.getD j 0) (half := h) (l := c) hh1 hnc (hjm'.out a ha) hna
          have hcs := count_step hgc hgr
          have L := root_any a v9 key (wantR a h c) w4 vF (by omega)
          rw [best_root, hroot] at L
          have L' := Lib.hid L
          have L2 : ∀ W, IdsV W v9 (wantR a h c) → Calls Try.prog 12 #[.agg (idL a).toArray, v9, .agg (idL key).toArray] W fun e w' => ∃ v', e = .returned v' ∧ IdsV w' v' [g] ∧ Kept W w' := fun W hW => by rw [← ho]; exact powed_any a v9 key _ W hW (by omega)
          have L2' := Lib.hid L2
          have hcs' := Lib.hid hcs
          clear L L2 hroot ho hna hgr hcs hnc
          go_wp2_with (go_at_call 9; refine L'.out.mono ?_; rintro e w6 ⟨rfl, q6⟩; refine stop_here ?_)
          refine Stopped.go ?_
          have sA6 := rowAt_below q6 sA4
          have sK6 := rowAt_below q6 sK4
          have cA6 := canPut_below q6 cA4
          have q7 := kt q5 q6
          go_wp2_with (go_at_call 12; refine (L2'.out _ (idsV_kept q6 vF)).mono ?_; rintro e w7 ⟨v10, rfl, vO, q8⟩; refine stop_here ?_)
          refine Stopped.go ?_
          have cA8 := canPut_below q8 cA6
          have k8 := kt q7 q8
          obtain ⟨go_, gcap, rfl, hGO⟩ := idsV_form vO
          obtain ⟨bg, og, rfl, hgr2⟩ := idsO_at hGO (i := 0) (by simp)
          have rG : rowAt w7 bg og 16 = some (idL g) := by have := hgr2 0 (by simp); simpa using this
          clear vO hGO hgr2 sA4 sK4 cA4 cA6
          go_wp2_with fail
          go_roundw
          case rel => exact ⟨n + 1, g, hlt, by simp, hgc, by rw [Hid] at H ⊢; have := hcs'.out; omega, kp k8 (Nat.le_refl _) _ _, by go_simp, by exact canPut_put _ cA8 (by rw [idL_length]; exact cA8)⟩
          case measure => simp [intOf]; omega
      · exfalso
        rw [Hid] at H
        omega
end Go.Proofs.Ytdbmggdnbdcanaa
