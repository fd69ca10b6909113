/- VaultForms: the given statement: whatever the input, the law returns true and the input reads as it did; no condition. -/
import Derived.Test.YtaifnopoojbcfaaRows
import Derived.Test.YtaifnopoojbcfaaFOpen
import Derived.ProofKit
namespace Go.Proofs.Ytaifnopoojbcfaa
open Go.ChangeShapes Go.WideShapes Go.ChangeAt Go.RowKit

theorem own_knob_f : ownKnob Try.prog.godebug = none := by kernel_rfl

theorem forms_any (key who : Id) (N : Int) (s : Value) (t : List UInt8) (a b : Vr) (w : World) (hs : ElV w s (bL t)) (hl : t.length ≤ 140737488351232) (hN : N ≤ 9223372036854775807) :
    Calls Try.prog 3 #[.agg (itemL ⟨key, ⟨N, who⟩, s⟩).toArray, .agg (verL a).toArray, .agg (verL b).toArray] w fun e w' => e = .returned (.bool true) ∧ Kept w w' := by
  by_cases h : N < 0
  · exact forms_neg key who N s t a b w hs hl h
  · obtain ⟨n, rfl⟩ := Int.eq_ofNat_of_zero_le (Int.not_lt.1 h)
    exact forms_pos key who n s t a b w hs hl (by omega)

set_option maxRecDepth 100000 in
theorem vaultForms_lifted (os : Os) (started : os.Started) (H : Type) (enc : TypeId × Value → H) :
    ReturnsInHanded {} Try.checked os 3 .any (Rows.vaultFormsSpec.pre6 enc Try.prog Try.f3 Rows.vaultFormsRow.domain false) (Rows.vaultFormsSpec.post enc Try.prog Try.f3 false true false false) := by
  refine returnsInHanded_of_change_sized (C := Try.checked) own_knob_f started (by kernel_rfl) Try.func3
    (ChangeSpec.witness6 (enc := enc) (C := Try.checked) false ⟨#[], #[.agg (itemL ⟨0, ⟨0, 0⟩, .slice none 0 0⟩).toArray, .agg (verL ⟨0, 0⟩).toArray, .agg (verL ⟨0, 0⟩).toArray], []⟩ 8 (by kernel_rfl) (by kernel_rfl) (by kernel_rfl) (by kernel_rfl)) ?_
  intro W base args ds gs before hval0 hW hcnd hsz0 _
  have hval : ∀ (j : Nat) t v, Try.f3.params[j]? = some t → args[j]? = some v → Value.okWide Try.prog W .any base t v := hval0
  have hsz : (DataW.weightsEach Try.prog (Try.f3.params.toList ++ Rows.vaultFormsSpec.plain.varTypes Try.prog) (ds ++ gs)).all (· ≤ reachBytes) = true := hsz0
  have hW' := hW
  obtain ⟨p, q, hA0, hV, rfl, hfz, hnd⟩ := hW
  have hA : DataW.TrodAll enc Try.prog W 0 (fun _ => true) true Try.f3.params.toList args.toList ds p := hA0
  rw [Try.params3] at hA hval hsz
  obtain ⟨v0, v1, v2, d0, d1, d2, p0, p1, p2, rfl, rfl, rfl, h0, h1, h2⟩ := trodAll_three hA
  obtain ⟨rfl, rfl⟩ := trodVars_none hV
  clear hA0 hval0 hsz0
  simp only [List.append_nil] at hW'
  obtain ⟨key, N, who, s, t, rfl, hN, hE, hr⟩ := open_item (hval 0 28 v0 rfl rfl) h0
  obtain ⟨a, rfl⟩ := open_ver (hval 1 25 v1 rfl rfl) h1
  obtain ⟨b, rfl⟩ := open_ver (hval 2 25 v2 rfl rfl) h2
  have hl : t.length ≤ 140737488351232 := by
    rcases hr with rfl | ⟨e0, e1, el, sp, rfl, hle⟩
    · simp
    · exact Nat.le_trans hle (reach_item hsz)
  have hlt : ∀ x ∈ p0 ++ p1 ++ p2, x.block < W.heap.size := fun x hx => by simpa using hW'.lt x (by simpa using hx)
  refine (forms_any key who N s t a b W hE hl hN).mono fun e W' ⟨he, hk⟩ => ?_
  subst he
  refine ⟨_, rfl, _, _, _, [], p0 ++ p1 ++ p2, [], by simpa using hW', trodAll_mk1 (shut_bool Try.underlying4 true), ?_, by rfl, hk.frame _, fun h => by cases h⟩
  have := trodAll_mk3 (Below.trod laid_prog (by kernel_rfl) (of_decide_eq_true (by kernel_rfl)) h0 hk fun x hx => hlt x (by simp [hx])) (Below.trod laid_prog (by kernel_rfl) (of_decide_eq_true (by kernel_rfl)) h1 hk fun x hx => hlt x (by simp [hx])) (Below.trod laid_prog (by kernel_rfl) (of_decide_eq_true (by kernel_rfl)) h2 hk fun x hx => hlt x (by simp [hx]))
  rw [← List.append_assoc] at this
  exact this

theorem vaultForms_holds : Rows.VaultFormsSaid :=
  OpenClaim.holds_of_wide 3 Try.f3 rfl rfl rfl rfl rfl rfl rfl ⟨rfl, rfl, rfl, rfl, rfl⟩ rfl rfl rfl rfl rfl (by kernel_rfl) Try.func3 (by kernel_rfl)
    (of_decide_eq_true (by kernel_rfl)) (by unfold Func.isWrapper; first | (rw [if_pos (by decide +kernel)]; kernel_rfl) | (rw [if_neg (by decide +kernel)]; exact ⟨rfl, rfl⟩))
    (fun os started H enc _ => vaultForms_lifted os started H enc)

end Go.Proofs.Ytaifnopoojbcfaa
