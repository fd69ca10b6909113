/- VaultBegins: the given statement: whatever the input, the law returns true and the input reads as it did; no condition. -/
import Derived.Test.YtaifnopoojbcfaaRows
import Derived.Test.YtaifnopoojbcfaaVOpen
import Derived.ProofKit
namespace Go.Proofs.Ytaifnopoojbcfaa
open Go.ChangeShapes Go.WideShapes Go.ChangeAt Go.RowKit

theorem own_knob : ownKnob Try.prog.godebug = none := by kernel_rfl

set_option maxRecDepth 100000 in
theorem vaultBegins_lifted (os : Os) (started : os.Started) (H : Type) (enc : TypeId × Value → H) :
    ReturnsInHanded {} Try.checked os 4 .any (Rows.vaultBeginsSpec.pre6 enc Try.prog Try.f4 Rows.vaultBeginsRow.domain false) (Rows.vaultBeginsSpec.post enc Try.prog Try.f4 false true false false) := by
  refine returnsInHanded_of_change (C := Try.checked) own_knob started (by kernel_rfl) Try.func4
    (ChangeSpec.witness6 (enc := enc) (C := Try.checked) false ⟨#[], #[.slice none 0 0], []⟩ 8 (by kernel_rfl) (by kernel_rfl) (by kernel_rfl) (by kernel_rfl)) ?_
  intro W base args ds gs before hval0 hW hcnd _
  have hval : ∀ (j : Nat) t v, Try.f4.params[j]? = some t → args[j]? = some v → Value.okWide Try.prog W .any base t v := hval0
  have hW' := hW
  obtain ⟨p, q, hA0, hV, rfl, hfz, hnd⟩ := hW
  have hA : DataW.TrodAll enc Try.prog W 0 (fun _ => true) true Try.f4.params.toList args.toList ds p := hA0
  rw [Try.params4] at hA hval
  obtain ⟨v0, d0, rfl, rfl, h0⟩ := trodAll_one hA
  obtain ⟨rfl, rfl⟩ := trodVars_none hV
  clear hA0 hval0
  simp only [List.append_nil] at hW'
  obtain ⟨zs, hv, hzl⟩ := trod_ints (okWide_slice Try.underlying33 (hval 0 33 v0 rfl rfl)) h0
  have hlt : ∀ x ∈ p, x.block < W.heap.size := fun x hx => by simpa using hW'.lt x hx
  refine (begins_any v0 zs W hv hzl).mono fun e W' ⟨he, hk⟩ => ?_
  subst he
  refine ⟨_, rfl, _, _, _, [], p, [], by simpa using hW', trodAll_mk1 (shut_bool Try.underlying4 true), ?_, by rfl, hk.frame _, fun h => by cases h⟩
  have := trodAll_mk1 (Below.trod laid_prog (by kernel_rfl) (of_decide_eq_true (by kernel_rfl)) h0 hk fun x hx => hlt x hx)
  exact this

theorem vaultBegins_holds : Rows.VaultBeginsSaid :=
  OpenClaim.holds_of_wide 4 Try.f4 rfl rfl rfl rfl rfl rfl rfl ⟨rfl, rfl, rfl, rfl, rfl⟩ rfl rfl rfl rfl rfl (by kernel_rfl) Try.func4 (by kernel_rfl)
    (of_decide_eq_true (by kernel_rfl)) (by unfold Func.isWrapper; first | (rw [if_pos (by decide +kernel)]; kernel_rfl) | (rw [if_neg (by decide +kernel)]; exact ⟨rfl, rfl⟩))
    (fun os started H enc _ => vaultBegins_lifted os started H enc)

end Go.Proofs.Ytaifnopoojbcfaa
