/- CopiesRises: the given statement: whatever the input, the law returns true and the input reads as it did; no condition. -/
import Derived.Test.YtdbmggdnbdcanaaRows
import Derived.Test.YtdbmggdnbdcanaaRises
import Derived.Test.YtdbmggdnbdcanaaOpen
import Derived.ProofKit
namespace Go.Proofs.Ytdbmggdnbdcanaa
open Go.ChangeShapes Go.WideShapes Go.ChangeAt Go.RowKit

theorem own_knob : ownKnob Try.prog.godebug = none := by kernel_rfl
theorem laid_out : laidOutB Try.prog = true := by kernel_rfl

theorem open_id {H : Type} {enc : TypeId × Value → H} {w : World} {base : Nat} {spare : Nat → Bool} {held : Bool} {v : Value} {d : DataW H} {p : List MemPlace} {r : Reach} {b0 : Nat}
    (hv : Value.okWide Try.prog w r b0 23 v) (h : DataW.Trod enc Try.prog w base spare held 23 v d p) : ∃ y : Id, v = .agg (idL y).toArray := by
  simp only [Value.okWide, Try.underlying23] at hv
  obtain ⟨cs, rfl, _, _⟩ := hv
  obtain ⟨fuel, hf⟩ := h
  obtain ⟨y, hy⟩ := trod_id hf
  have hy' : cs.toList = idL y := hy
  exact ⟨y, by rw [← hy']⟩

set_option maxRecDepth 100000 in
theorem copiesRises_lifted (os : Os) (started : os.Started) (H : Type) (enc : TypeId × Value → H) :
    ReturnsInHanded {} Try.checked os 4 .any (Rows.copiesRisesSpec.pre6 enc Try.prog Try.f4 Rows.copiesRisesRow.domain false) (Rows.copiesRisesSpec.post enc Try.prog Try.f4 false true false false) := by
  refine returnsInHanded_of_change (C := Try.checked) own_knob started (by kernel_rfl) Try.func4
    (ChangeSpec.witness6 (enc := enc) (C := Try.checked) false ⟨#[], #[.slice none 0 0, .int .i64 0, .agg (idL 0).toArray], []⟩ 8 (by kernel_rfl) (by kernel_rfl) (by kernel_rfl) (by kernel_rfl)) ?_
  intro W base args ds gs before hval0 hW hcnd _
  have hval : ∀ (j : Nat) t v, Try.f4.params[j]? = some t → args[j]? = some v → Value.okWide Try.prog W .any base t v := hval0
  have hW' := hW
  obtain ⟨p, q, hA0, hV, rfl, hfz, hnd⟩ := hW
  have hA : DataW.TrodAll enc Try.prog W 0 (fun _ => true) true Try.f4.params.toList args.toList ds p := hA0
  rw [Try.params4] at hA hval
  obtain ⟨v0, v1, v2, d0, d1, d2, p0, p1, p2, rfl, rfl, rfl, h0, h1, h2⟩ := trodAll_three hA
  obtain ⟨rfl, rfl⟩ := trodVars_none hV
  clear hA0 hval0
  simp only [List.append_nil] at hW'
  obtain ⟨x, rfl, rfl, rfl, wx⟩ := open_int Try.underlying3 (hval 1 3 v1 rfl rfl) h1
  obtain ⟨key, rfl⟩ := open_id (hval 2 23 v2 rfl rfl) h2
  obtain ⟨l, hv, hlm⟩ := trod_ids (okWide_slice Try.underlying24 (hval 0 24 v0 rfl rfl)) h0
  have hlt : ∀ x ∈ p0 ++ [] ++ p2, x.block < W.heap.size := fun x hx => by simpa using hW'.lt x hx
  refine (rises_any v0 x key l W hv hlm).mono fun e W' ⟨he, hk⟩ => ?_
  subst he
  refine ⟨_, rfl, _, _, _, [], p0 ++ [] ++ p2, [], hW', trodAll_mk1 (shut_bool Try.underlying4 true), ?_, by rfl, hk.frame _, fun h => by cases h⟩
  have := trodAll_mk3 (Below.trod laid_out (by kernel_rfl) (of_decide_eq_true (by kernel_rfl)) h0 hk fun x hx => hlt x (by simp [hx])) (shut_int Try.underlying3 wx) (Below.trod laid_out (by kernel_rfl) (of_decide_eq_true (by kernel_rfl)) h2 hk fun x hx => hlt x (by simp [hx]))
  rw [← List.append_assoc] at this
  exact this

theorem copiesRises_holds : Rows.CopiesRisesSaid :=
  OpenClaim.holds_of_wide 4 Try.f4 rfl rfl rfl rfl rfl rfl rfl ⟨rfl, rfl, rfl, rfl, rfl⟩ rfl rfl rfl rfl rfl (by kernel_rfl) Try.func4 (by kernel_rfl)
    (of_decide_eq_true (by kernel_rfl)) (by unfold Func.isWrapper; first | (rw [if_pos (by decide +kernel)]; kernel_rfl) | (rw [if_neg (by decide +kernel)]; exact ⟨rfl, rfl⟩))
    (fun os started H enc _ => copiesRises_lifted os started H enc)

end Go.Proofs.Ytdbmggdnbdcanaa
