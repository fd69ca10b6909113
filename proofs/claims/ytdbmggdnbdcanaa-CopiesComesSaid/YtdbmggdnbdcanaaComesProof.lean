/- CopiesComes: the given statement: whatever the input, the law returns true and the input reads as it did; no condition. -/
import Derived.Test.YtdbmggdnbdcanaaRows
import Derived.Test.YtdbmggdnbdcanaaComes
import Derived.Test.YtdbmggdnbdcanaaOpen
import Derived.ProofKit
namespace Go.Proofs.Ytdbmggdnbdcanaa
open Go.ChangeShapes Go.WideShapes Go.ChangeAt Go.RowKit

theorem own_knob : ownKnob Try.prog.godebug = none := by kernel_rfl
theorem laid_out : laidOutB Try.prog = true := by kernel_rfl

theorem open_id {H : Type} {enc : TypeId × Value → H} {w : World} {base : Nat} {spare : Nat → Bool} {held : Bool} {v : Value} {d : DataW H} {p : List MemPlace} {r : Reach} {b0 : Nat}
    (hv : Value.okWide Try.prog w r b0 23 v) (h : DataW.Trod enc Try.prog w base spare held 23 v d p) : ∃ y : Id, v = .agg (idL y).toArray := by
  simp only [Value.okWide, Try.underlying23] at hv
  obtain ⟨cs, rfl, _, _⟩ := hv
  obtain ⟨fuel, hf⟩ := h
  obtain ⟨y, hy⟩ := trod_id hf
  have hy' : cs.toList = idL y := hy
  exact ⟨y, by rw [← hy']⟩

theorem cells_two : Try.prog.cellsOf 36 = 2 := by kernel_rfl
theorem cells_int : Try.prog.cellsOf 3 = 1 := by kernel_rfl
theorem open_two {H : Type} {enc : TypeId × Value → H} {w : World} {base : Nat} {spare : Nat → Bool} {held : Bool} {v : Value} {d : DataW H} {p : List MemPlace} {r : Reach} {b0 : Nat}
    (hv : Value.okWide Try.prog w r b0 36 v) (h : DataW.Trod enc Try.prog w base spare held 36 v d p) : ∃ x y : Int, v = .agg #[.int .i64 x, .int .i64 y] := by
  simp only [Value.okWide, Try.underlying36] at hv
  obtain ⟨cs, rfl, hsz, _⟩ := hv
  rw [cells_two] at hsz
  obtain ⟨fuel, hf⟩ := h
  obtain ⟨xs, m, _, _, _, hx, hel⟩ := DataW.trod_array Try.underlying36 hf
  rw [cells_int] at hel
  have e0 := hel 0 (by omega)
  have e1 := hel 1 (by omega)
  rw [List.getElem?_eq_getElem (by omega)] at e0 e1
  obtain ⟨a, ha, _, _⟩ := DataW.trod_int Try.underlying3 e0
  obtain ⟨b, hb, _, _⟩ := DataW.trod_int Try.underlying3 e1
  refine ⟨a, b, ?_⟩
  obtain ⟨l⟩ := cs
  match l, hsz with
  | [c0, c1], _ =>
    simp [Value.cells] at ha hb
    rw [ha, hb]

set_option maxRecDepth 100000 in
theorem copiesComes_lifted (os : Os) (started : os.Started) (H : Type) (enc : TypeId × Value → H) :
    ReturnsInHanded {} Try.checked os 5 .any (Rows.copiesComesSpec.pre6 enc Try.prog Try.f5 Rows.copiesComesRow.domain false) (Rows.copiesComesSpec.post enc Try.prog Try.f5 false true false false) := by
  refine returnsInHanded_of_change (C := Try.checked) own_knob started (by kernel_rfl) Try.func5
    (ChangeSpec.witness6 (enc := enc) (C := Try.checked) false ⟨#[], #[.slice none 0 0, .agg (idL 0).toArray, .agg #[.int .i64 0, .int .i64 0]], []⟩ 8 (by kernel_rfl) (by kernel_rfl) (by kernel_rfl) (by kernel_rfl)) ?_
  intro W base args ds gs before hval0 hW hcnd _
  have hval : ∀ (j : Nat) t v, Try.f5.params[j]? = some t → args[j]? = some v → Value.okWide Try.prog W .any base t v := hval0
  have hW' := hW
  obtain ⟨p, q, hA0, hV, rfl, hfz, hnd⟩ := hW
  have hA : DataW.TrodAll enc Try.prog W 0 (fun _ => true) true Try.f5.params.toList args.toList ds p := hA0
  rw [Try.params5] at hA hval
  obtain ⟨v0, v1, v2, d0, d1, d2, p0, p1, p2, rfl, rfl, rfl, h0, h1, h2⟩ := trodAll_three hA
  obtain ⟨rfl, rfl⟩ := trodVars_none hV
  clear hA0 hval0
  simp only [List.append_nil] at hW'
  obtain ⟨key, rfl⟩ := open_id (hval 1 23 v1 rfl rfl) h1
  obtain ⟨x, y, rfl⟩ := open_two (hval 2 36 v2 rfl rfl) h2
  obtain ⟨l, hv, hlm⟩ := trod_ids (okWide_slice Try.underlying24 (hval 0 24 v0 rfl rfl)) h0
  have hlt : ∀ x ∈ p0 ++ p1 ++ p2, x.block < W.heap.size := fun x hx => by simpa using hW'.lt x hx
  refine (comes_any v0 x y key l W hv hlm).mono fun e W' ⟨he, hk⟩ => ?_
  subst he
  refine ⟨_, rfl, _, _, _, [], p0 ++ p1 ++ p2, [], hW', trodAll_mk1 (shut_bool Try.underlying4 true), ?_, by rfl, hk.frame _, fun h => by cases h⟩
  have := trodAll_mk3 (Below.trod laid_out (by kernel_rfl) (of_decide_eq_true (by kernel_rfl)) h0 hk fun x hx => hlt x (by simp [hx])) (Below.trod laid_out (by kernel_rfl) (of_decide_eq_true (by kernel_rfl)) h1 hk fun x hx => hlt x (by simp [hx])) (Below.trod laid_out (by kernel_rfl) (of_decide_eq_true (by kernel_rfl)) h2 hk fun x hx => hlt x (by simp [hx]))
  rw [← List.append_assoc] at this
  exact this

theorem copiesComes_holds : Rows.CopiesComesSaid :=
  OpenClaim.holds_of_wide 5 Try.f5 rfl rfl rfl rfl rfl rfl rfl ⟨rfl, rfl, rfl, rfl, rfl⟩ rfl rfl rfl rfl rfl (by kernel_rfl) Try.func5 (by kernel_rfl)
    (of_decide_eq_true (by kernel_rfl)) (by unfold Func.isWrapper; first | (rw [if_pos (by decide +kernel)]; kernel_rfl) | (rw [if_neg (by decide +kernel)]; exact ⟨rfl, rfl⟩))
    (fun os started H enc _ => copiesComes_lifted os started H enc)

end Go.Proofs.Ytdbmggdnbdcanaa
