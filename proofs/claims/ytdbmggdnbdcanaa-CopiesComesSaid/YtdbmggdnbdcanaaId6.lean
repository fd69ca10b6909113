/- The program's and the reference's functions on identities: Nearer; two identities compared. -/
import Derived.Test.YtdbmggdnbdcanaaId5
namespace Go.Proofs.Ytdbmggdnbdcanaa
open Go.RowKit
open BigFrame

@[go_sem ↓] theorem eql_id (x y : Value) : binOp .eql 23 x y = eqRow 23 x y := rfl
@[go_sem ↓] theorem neq_id (x y : Value) : binOp .neq 23 x y = neRow 23 x y := rfl
@[go_sem] theorem run_eql_id (x y : Id) (W : World) : (eqRow 23 (.agg (idL x).toArray) (.agg (idL y).toArray)).run Try.prog W = .ok (.bool (x == y)) W :=
  run_eqRow_of Try.underlying23 Try.underlying5 Try.sizeOf5 x y W
@[go_sem] theorem run_neq_id (x y : Id) (W : World) : (neRow 23 (.agg (idL x).toArray) (.agg (idL y).toArray)).run Try.prog W = .ok (.bool (x != y)) W :=
  run_neRow_of Try.underlying23 Try.underlying5 Try.sizeOf5 x y W
@[go_sem] theorem guard_id (o : BinOp) (x y : Operand) (xs ys : Array Value) (W : World) : (eqGuard o 23 x y (.agg xs) (.agg ys)).run Try.prog W = .ok () W :=
  run_eqGuard_agg W o _ x y xs ys (by kernel_rfl)

/-- Is a nearer to d than b? -/
def nearB (d a b : Id) : Bool := ltB (farI a d) (farI b d) || (farI a d == farI b d && ltB (a - d) (b - d))

theorem inear_ne {d a b : Id} (h : (cmpI (farI a d) (farI b d) != 0) = true) : decide (cmpI (farI a d) (farI b d) < 0) = nearB d a b := by
  unfold cmpI at h ⊢
  unfold nearB ltB
  by_cases h1 : (farI a d).toNat < (farI b d).toNat
  · simp [h1]
  · by_cases h2 : (farI b d).toNat < (farI a d).toNat
    · have : (farI a d == farI b d) = false := by
        rw [beq_eq_false_iff_ne]; intro e; rw [e] at h2; omega
      simp [h1, h2, this]
    · simp [h1, h2] at h
theorem inear_eq {d a b : Id} (h : (cmpI (farI a d) (farI b d) != 0) = false) : decide (cmpI (a - d) (b - d) < 0) = nearB d a b := by
  unfold cmpI at h ⊢
  unfold nearB ltB
  by_cases h1 : (farI a d).toNat < (farI b d).toNat
  · simp [h1] at h
  · by_cases h2 : (farI b d).toNat < (farI a d).toNat
    · simp [h1, h2] at h
    · have : farI a d = farI b d := BitVec.eq_of_toNat_eq (by omega)
      rw [this]
      generalize a - d = p
      generalize b - d = r
      by_cases h3 : p.toNat < r.toNat
      · simp [h3]
      · by_cases h4 : r.toNat < p.toNat <;> simp [h3, h4]

set_option maxHeartbeats 1600000 in
theorem near_any (d a b : Id) (w : World) :
    Calls Try.prog 25 #[.agg (idL d).toArray, .agg (idL a).toArray, .agg (idL b).toArray] w fun e w' => e = .returned (.bool (nearB d a b)) ∧ Kept w w' := by
  go_enter Try.func25, Try.ntmps25
  go_wp2_with fail
  refine wp_any_world (fun W => Kept w W ∧ rowAt W w.heap.size 0 16 = some (idL d) ∧ rowAt W (w.heap.size + 1) 0 16 = some (idL a) ∧ rowAt W (w.heap.size + 1 + 1) 0 16 = some (idL b)) ⟨ka (ka (ka (k0 w) _) _) _, by go_simp, by go_simp, by go_simp⟩ ?_
  rintro W ⟨q, r1, r2, r3⟩
  have f1 := rowAt_later r1
  have f2 := rowAt_later r2
  have f3 := rowAt_later r3
  refine wp_region_later (by kernel_rfl) (by kernel_rfl) ?_
  repeat (go_big_quiet_step (first | (go_at_call 35; exact calls_later (far_any _ _ _)) | (go_at_call 30; exact calls_later (compare_any _ _ _))))
  refine wpQuiet_nil ?_
  rintro w1 hq
  have r4 := rowAt_below hq r1
  have r5 := rowAt_below hq r2
  have r6 := rowAt_below hq r3
  have q3 := kt q hq
  clear f1 f2 f3 r1 r2 r3 q hq
  go_wp2_with fail
  · go_ret
    have h : (cmpI (farI a d) (farI b d) != 0) = true := by assumption
    refine ⟨?_, q3⟩
    rw [← inear_ne h]
    rfl
  · have f1 := rowAt_later r4
    have f2 := rowAt_later r5
    have f3 := rowAt_later r6
    have h : (cmpI (farI a d) (farI b d) != 0) = false := by assumption
    refine wp_region_later (by kernel_rfl) (by kernel_rfl) ?_
    repeat (go_big_quiet_step (first | (go_at_call 36; exact calls_later (isub_any _ _ _)) | (go_at_call 30; exact calls_later (compare_any _ _ _))))
    refine wpQuiet_nil ?_
    rintro w2 hq
    go_wp2_with fail
    go_ret
    refine ⟨?_, kt q3 hq⟩
    rw [← inear_eq h]
    rfl

set_option maxHeartbeats 1600000 in
theorem rnear_any (d a b : Id) (w : World) :
    Calls Try.prog 16 #[.agg (idL d).toArray, .agg (idL a).toArray, .agg (idL b).toArray] w fun e w' => e = .returned (.bool (nearB d a b)) ∧ Kept w w' := by
  go_enter Try.func16, Try.ntmps16
  go_wp2_with fail
  refine wp_any_world (fun W => Kept w W ∧ rowAt W w.heap.size 0 16 = some (idL d) ∧ rowAt W (w.heap.size + 1) 0 16 = some (idL a) ∧ rowAt W (w.heap.size + 1 + 1) 0 16 = some (idL b)) ⟨ka (ka (ka (k0 w) _) _) _, by go_simp, by go_simp, by go_simp⟩ ?_
  rintro W ⟨q, r1, r2, r3⟩
  refine wp_region_two (af := ?af) ⟨6, 8, 7, 11, 23, 16, idL (farI a d)⟩ ⟨7, 9, 8, 14, 23, 16, idL (farI b d)⟩ (by kernel_rfl) (by kernel_rfl) (by kernel_rfl) (by kernel_rfl) (idPart 0 0) (by simp) alloc_id (idPart 0 0) (by simp) alloc_id (by kernel_rfl) (by kernel_rfl) (show (7 : Nat) ≠ 8 by decide) (show (8 : Nat) ≠ 9 by decide) (by simp) (by simp) ?g1 ?g2 ?hh (rowOk_id _) ?g3 (rowOk_id _) ?g4 ?hq
  case hh =>
    intro V hV
    have f1 := rowAt_later (rowAt_below hV r1)
    have f2 := rowAt_later (rowAt_below hV r2)
    have f3 := rowAt_later (rowAt_below hV r3)
    simp (config := { decide := true }) only [nopAt, nopOf, ↓reduceIte]
    repeat (go_big_quiet_step (first | (go_at_call 24; exact calls_later (rfar_any _ _ _))))
    refine wpQuiet_nil ?_
    rfl
  case g1 => simp
  case g2 => simp
  case g3 => rfl
  case g4 => rfl
  case hq =>
    intro b1 b2 W1 hk _ _ hne _ t1 _ t2
    simp only [Act.put, List.setIfInBounds_toArray, List.set_cons_zero, List.set_cons_succ]
    have q2 := kt q hk
    have f1 := rowAt_later (rowAt_below hk r1)
    have f2 := rowAt_later (rowAt_below hk r2)
    have f3 := rowAt_later (rowAt_below hk r3)
    have f4 := rowAt_later t1
    have f5 := rowAt_later t2
    clear hk q r1 r2 r3 t1 t2
    cases h1 : ltB (farI a d) (farI b d)
    · have L1 : ∀ W, Calls Try.prog 22 #[.agg (idL (farI a d)).toArray, .agg (idL (farI b d)).toArray] W fun e w' => e = .returned (.bool false) ∧ Kept W w' := fun W => by rw [← h1]; exact less_any _ _ W
      have L1' := Lib.hid L1
      clear L1
      cases h2 : (farI a d == farI b d)
      · go_wp2_with fail
        refine wp_region_later (by kernel_rfl) (by kernel_rfl) ?_
        repeat (go_big_quiet_step (first | (go_at_call 22; exact calls_later (L1'.out _)) | (go_at_call 23; exact calls_later (sub_any _ _ _))))
        refine wpQuiet_nil ?_
        rintro w2 hq
        go_wp2_with fail
        go_ret
        refine ⟨?_, kt q2 hq⟩
        unfold nearB
        rw [h1, h2]
        rfl
      · go_wp2_with fail
        refine wp_region_later (by kernel_rfl) (by kernel_rfl) ?_
        repeat (go_big_quiet_step (first | (go_at_call 22; first | (with_reducible exact calls_later (L1'.out _)) | exact calls_later (less_any _ _ _)) | (go_at_call 23; exact calls_later (sub_any _ _ _))))
        refine wpQuiet_nil ?_
        rintro w2 hq
        go_wp2_with fail
        go_ret
        refine ⟨?_, kt q2 hq⟩
        unfold nearB
        rw [h1, h2]
        rfl
    · have L1 : ∀ W, Calls Try.prog 22 #[.agg (idL (farI a d)).toArray, .agg (idL (farI b d)).toArray] W fun e w' => e = .returned (.bool true) ∧ Kept W w' := fun W => by rw [← h1]; exact less_any _ _ W
      have L1' := Lib.hid L1
      clear L1
      go_wp2_with fail
      refine wp_region_later (by kernel_rfl) (by kernel_rfl) ?_
      repeat (go_big_quiet_step (first | (go_at_call 22; exact calls_later (L1'.out _)) | (go_at_call 23; exact calls_later (sub_any _ _ _))))
      refine wpQuiet_nil ?_
      rintro w2 hq
      go_wp2_with fail
      go_ret
      refine ⟨?_, kt q2 hq⟩
      unfold nearB
      rw [h1]
      rfl

end Go.Proofs.Ytdbmggdnbdcanaa
