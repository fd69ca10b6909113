/- CopiesRises: the walk. -/
import Derived.Test.YtdbmggdnbdcanaaRing
import Derived.Test.YtdbmggdnbdcanaaFixed
namespace Go.Proofs.Ytdbmggdnbdcanaa
open Go.RowKit
open BigFrame

theorem rank_inj {k a b : Id} (h : rank k a = rank k b) : a = b := by
  unfold rank at h
  have h1 := (a - k).isLt
  have h2 := (b - k).isLt
  have : (a - k).toNat = (b - k).toNat := by omega
  have := BitVec.eq_of_toNat_eq this
  have h3 : a - k + k = b - k + k := by rw [this]
  simpa [BitVec.sub_add_cancel] using h3
/-- The place of the nearest, and that it is the nearest. -/
theorem first_min (k : Id) (l : List Id) (h : 0 < l.length) : ∃ j : Nat, firstI k l 0 l.length = j ∧ j < l.length ∧ ∀ x, x ∈ l → rank k (l.getD j 0) ≤ rank k x := by
  obtain ⟨b, h1, h2, h3, _⟩ := bestI_spec k l l.length h
  refine ⟨b, by rw [← best_first, h1], h2, fun x hx => ?_⟩
  obtain ⟨i, hi, rfl⟩ := List.getElem_of_mem hx
  have := h3 i hi
  simpa [List.getD, hi] using this
theorem owed_want (a key : Id) (half : Nat) (l : List Id) : owedR a key (wantR a half l) = if rootN a key (wantR a half l) (wantR a half l).length = true then wantR a half l else [(wantR a half l).getD (firstI key (wantR a half l) 0 (wantR a half l).length).toNat 0] := by
  unfold owedR
  simp only [sort_want]
theorem rises_near {a key : Id} {half : Nat} {l : List Id} (hn : ∀ x, x ∈ l → rank key a ≤ rank key x) : rootN a key (wantR a half l) (wantR a half l).length = true ∧ owedR a key (wantR a half l) = wantR a half l := by
  have hr : rootN a key (wantR a half l) (wantR a half l).length = true := by
    rw [rootN_iff]
    intro k hk
    refine hn _ (want_mem (self := a) (half := half) ?_).1
    simp [List.getD, hk]
  exact ⟨hr, by rw [owed_want, if_pos hr]⟩
theorem rises_far {a key n : Id} {half : Nat} {l : List Id} (hh : 1 ≤ half) (hn : n ∈ l) (hmin : rank key n ≤ rank key a) (hne : n ≠ a) :
    rootN a key (wantR a half l) (wantR a half l).length = false ∧ ∃ g, owedR a key (wantR a half l) = [g] ∧ g ∈ l ∧ rank key g < rank key a := by
  have hlt : rank key n < rank key a := by
    have : rank key n ≠ rank key a := fun e => hne (rank_inj e)
    omega
  obtain ⟨c, hc, hcr⟩ := want_near hh hn hlt
  have hr : rootN a key (wantR a half l) (wantR a half l).length = false := by
    rw [← Bool.not_eq_true, rootN_iff]
    intro h
    obtain ⟨i, hi, hic⟩ := List.getElem_of_mem hc
    have := h i hi
    rw [show (wantR a half l).getD i 0 = c by simp [List.getD, hi, hic]] at this
    omega
  have hpos : 0 < (wantR a half l).length := List.length_pos_of_mem hc
  obtain ⟨j, h1, h2, h3⟩ := first_min key (wantR a half l) hpos
  refine ⟨hr, (wantR a half l).getD j 0, ?_, ?_, ?_⟩
  · rw [owed_want, if_neg (by rw [hr]; decide), h1, Int.toNat_natCast]
  · exact (want_mem (self := a) (half := half) (by simp [List.getD, h2])).1
  · have := h3 c hc
    omega

/-- The law's half: 1, 2 or 3. -/
theorem half_any (x : Int) : ∃ h : Nat, 1 ≤ h ∧ h ≤ 3 ∧ wrap64 (1 + wrap64 ((IntKind.u64.wrap x).tmod 3)) = (h : Int) := by
  have h0 : 0 ≤ IntKind.u64.wrap x := by
    simp [IntKind.wrap, IntKind.bits, IntKind.signed]
    omega
  generalize IntKind.u64.wrap x = u at h0
  rw [Int.tmod_eq_emod_of_nonneg h0]
  have e1 : wrap64 (u % 3) = u % 3 := by unfold wrap64; omega
  have e2 : wrap64 (1 + u % 3) = 1 + u % 3 := by unfold wrap64; omega
  exact ⟨(1 + u % 3).toNat, by omega, by omega, by rw [e1, e2]; omega⟩

set_option maxHeartbeats 12800000 in
theorem rises_any (v : Value) (x : Int) (key : Id) (l : List Id) (w : World) (hv : IdsV w v l) (hlm : ∀ ao n cap, v = .slice ao n cap → n ≤ cap) :
    Calls Try.prog 4 #[v, .int .i64 x, .agg (idL key).toArray] w fun e w' => e = .returned (.bool true) ∧ Kept w w' := by
  have hc : (l.take 16).length ≤ 16 := by rw [List.length_take]; omega
  generalize hcl : l.take 16 = c at hc
  have hcl' := Lib.hid hcl
  clear hcl
  go_enter Try.func4, Try.ntmps4
  go_wp2_with (go_at_call 6; refine (cut_any v l 16 _ (idsV_kept (ka (k0 w) _) hv) (by omega) hlm).mono ?_; rintro e w1 ⟨v1, rfl, hv1, q1⟩; refine stop_here ?_)
  refine Stopped.go ?_
  rw [hcl'.out] at hv1
  have s2 : rowAt w1 w.heap.size 0 16 = some (idL key) := rowAt_below q1 (by go_simp)
  have k1 : Kept w w1 := kt (ka (k0 w) _) q1
  clear q1
  obtain ⟨ao, cap, rfl, hO⟩ := idsV_form hv1
  obtain ⟨h, hh1, hh2, hE⟩ := half_any x
  go_wp2_with fail
  rw [hE]
  clear hE
  generalize (IntKind.u64.wrap x).tmod 3 = y3
  generalize IntKind.u64.wrap x = y4
  generalize wrap64 y3 = y5
  go_loopw [20] (fun iv wr => ∃ i : Nat, i ≤ c.length ∧ iv = .int .i64 i ∧ Kept w1 wr) (fun iv _ => c.length - (intOf iv).toNat)
  case atStart => exact ⟨0, by omega, rfl, k0 _⟩
  case round =>
    obtain ⟨i, hi, rfl, q⟩ := hrel
    by_cases hlt : i < c.length
    · obtain ⟨b, off, rfl, hr⟩ := idsO_at hO hlt
      have i1 : (i : Int) < (c.length : Int) := by omega
      have r1 := rowAt_below q (hr i hlt)
      have e1 : c.getD i 0 = c[i] := by simp [List.getD, hlt]
      rw [e1] at r1
      have ha : c[i] ∈ c := List.getElem_mem hlt
      obtain ⟨a, hca⟩ : ∃ a, c[i] = a := ⟨_, rfl⟩
      rw [hca] at r1 ha
      clear e1 hca
      obtain ⟨j, hj, hjl, hjm⟩ := first_min key c (by omega)
      have kA : Kept wr (wr.alloc (.cells (idL a).toArray 23)) := ka (k0 _) _
      have sA : rowAt (wr.alloc (.cells (idL a).toArray 23)) wr.heap.size 0 16 = some (idL a) := by go_simp
      have sK := rowAt_below kA (rowAt_below q s2)
      have vC : IdsV (wr.alloc (.cells (idL a).toArray 23)) (.slice (some ⟨b, off, none⟩) c.length cap) c := idsV_kept kA (idsV_kept q hv1)
      have qA := kt q kA
      go_wp2_with (go_at_call 14; refine (want_any a _ h c _ vC (by omega)).mono ?_; rintro e w4 ⟨v9, rfl, vF, q4⟩; refine stop_here ?_)
      refine Stopped.go ?_
      have sA4 := rowAt_below q4 sA
      have sK4 := rowAt_below q4 sK
      have vC4 := idsV_kept q4 vC
      have q5 := kt qA q4
      clear sA sK vC qA kA q4 r1
      have hfl : (wantR a h c).length ≤ 16 := by
        have h1 := wantN_length a h (sortR a c c.length) (sortR a c c.length).length
        have h2 := sortR_length a c c.length
        have h3 : (wantR a h c).length = (wantN a h (sortR a c c.length) (sortR a c c.length).length).length := rfl
        omega
      by_cases hna : c.getD j 0 = a
      · obtain ⟨_, ho⟩ := rises_near (a := a) (key := key) (half := h) (l := c) (fun y hy => by rw [← hna]; exact hjm y hy)
        have L := powed_any a v9 key (wantR a h c) w4 vF (by omega)
        rw [ho] at L
        have L' := Lib.hid L
        generalize wantR a h c = fr at *
        clear L ho
        go_wp2_with (go_at_call 12; refine L'.out.mono ?_; rintro e w6 ⟨v10, rfl, vO, q6⟩; refine stop_here ?_)
        refine Stopped.go ?_
        have sA6 := rowAt_below q6 sA4
        have sK6 := rowAt_below q6 sK4
        have vC6 := idsV_kept q6 vC4
        have r6 := rowAt_below (kt q5 q6) (hr j hjl)
        rw [hna] at r6
        have vF6 := idsV_kept q6 vF
        have q7 := kt q5 q6
        have j1 : (j : Int) < (c.length : Int) := by omega
        have LN : ∀ W, IdsV W (.slice (some ⟨b, off, none⟩) c.length cap) c → Calls Try.prog 15 #[.agg (idL key).toArray, .slice (some ⟨b, off, none⟩) c.length cap] W fun e w' => e = .returned (.int .i64 j) ∧ Kept W w' := fun W hW => by rw [← hj]; exact first_any key _ c W hW (by omega)
        have LN' := Lib.hid LN
        have f1 := rowAt_later sA6
        have f2 := rowAt_later sK6
        have f3 := rowAt_later r6
        have LS : ∀ W, IdsV W v10 fr → IdsV W v9 fr → Calls Try.prog 11 #[v10, v9] W fun e w' => e = .returned (.bool true) ∧ Kept W w' := fun W h1 h2 => by
          have := same_any v10 v9 fr fr W h1 h2 (by omega) (by omega)
          rwa [beq_self_eq_true] at this
        have LS' := Lib.hid LS
        clear LN LS hj hna hjm sA4 sK4 vC4 vF q5 q6
        go_wp2_with fail
        refine wp_region_later (by kernel_rfl) (by kernel_rfl) ?_
        repeat (go_big_quiet_step (first | (go_at_call 15; exact calls_later (LN'.out _ (idsV_kept (kept_later _ _) vC6)))))
        refine wpQuiet_nil ?_
        rintro w7 q8
        have vO7 := idsV_kept q8 vO
        have vF7 := idsV_kept q8 vF6
        have k7 := kt q7 q8
        clear f1 f2 f3 vO vF6 q7 q8
        go_wp2_with (go_at_call 11; refine (LS'.out _ vO7 vF7).mono ?_; rintro e w8 ⟨rfl, q9⟩)
        go_roundw
        case rel => exact ⟨i + 1, hlt, by simp, kt k7 q9⟩
        case measure => simp [intOf]; omega
      · have hnc : c.getD j 0 ∈ c := by simp [List.getD, hjl]
        obtain ⟨_, g, ho, _, hgr⟩ := rises_far (a := a) (key := key) (n := c.getD j 0) (half := h) (l := c) hh1 hnc (hjm a ha) hna
        have L := powed_any a v9 key (wantR a h c) w4 vF (by omega)
        rw [ho] at L
        have L' := Lib.hid L
        have hng : nearB key g a = true := by rw [nearB_rank]; simpa using hgr
        generalize wantR a h c = fr at *
        clear L ho
        go_wp2_with (go_at_call 12; refine L'.out.mono ?_; rintro e w6 ⟨v10, rfl, vO, q6⟩; refine stop_here ?_)
        refine Stopped.go ?_
        have sA6 := rowAt_below q6 sA4
        have sK6 := rowAt_below q6 sK4
        have vC6 := idsV_kept q6 vC4
        obtain ⟨n, hn⟩ : ∃ n, c.getD j 0 = n := ⟨_, rfl⟩
        have r6 := rowAt_below (kt q5 q6) (hr j hjl)
        rw [hn] at r6 hna
        have hb : (n == a) = false := by rw [beq_eq_false_iff_ne]; exact hna
        have q7 := kt q5 q6
        have j1 : (j : Int) < (c.length : Int) := by omega
        obtain ⟨go_, gcap, rfl, hGO⟩ := idsV_form vO
        obtain ⟨bg, og, rfl, hgr2⟩ := idsO_at hGO (i := 0) (by simp)
        have rG : rowAt w6 bg og 16 = some (idL g) := by have := hgr2 0 (by simp); simpa using this
        have LN : ∀ W, IdsV W (.slice (some ⟨b, off, none⟩) c.length cap) c → Calls Try.prog 15 #[.agg (idL key).toArray, .slice (some ⟨b, off, none⟩) c.length cap] W fun e w' => e = .returned (.int .i64 j) ∧ Kept W w' := fun W hW => by rw [← hj]; exact first_any key _ c W hW (by omega)
        have LN' := Lib.hid LN
        have LR : ∀ W, Calls Try.prog 16 #[.agg (idL key).toArray, .agg (idL g).toArray, .agg (idL a).toArray] W fun e w' => e = .returned (.bool true) ∧ Kept W w' := fun W => by rw [← hng]; exact rnear_any _ _ _ W
        have LR' := Lib.hid LR
        have f1 := rowAt_later sA6
        have f2 := rowAt_later sK6
        have f3 := rowAt_later r6
        clear LN LR hj hn hna hjm sA4 sK4 vC4 vF q5 q6 hng hgr vO hGO hgr2 hnc
        go_wp2_with fail
        refine wp_region_later (by kernel_rfl) (by kernel_rfl) ?_
        repeat (go_big_quiet_step (first | (go_at_call 15; exact calls_later (LN'.out _ (idsV_kept (kept_later _ _) vC6)))))
        refine wpQuiet_nil ?_
        rintro w7 q8
        have sA8 := rowAt_below q8 sA6
        have sK8 := rowAt_below q8 sK6
        have rG8 := rowAt_below q8 rG
        have k7 := kt q7 q8
        have g1 := rowAt_later sA8
        have g2 := rowAt_later sK8
        have g3 := rowAt_later rG8
        clear f1 f2 f3 q7 q8
        go_wp2_with fail
        refine wp_region_later (by kernel_rfl) (by kernel_rfl) ?_
        repeat (go_big_quiet_step (first | (go_at_call 16; exact calls_later (LR'.out _))))
        refine wpQuiet_nil ?_
        rintro w8 q9
        go_wp2_with fail
        go_roundw
        case rel => exact ⟨i + 1, hlt, by simp, kt k7 q9⟩
        case measure => simp [intOf]; omega
    · have hic : i = c.length := by omega
      subst hic
      have ni : ¬ (c.length : Int) < (c.length : Int) := by omega
      go_wp2_with (go_at_call 8; refine (fixed_any _).mono ?_; rintro e w9 ⟨rfl, q9⟩)
      go_ret
      exact ⟨rfl, kt k1 (kt q q9)⟩
end Go.Proofs.Ytdbmggdnbdcanaa
