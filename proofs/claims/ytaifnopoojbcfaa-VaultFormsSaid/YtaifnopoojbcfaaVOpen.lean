/- A slice of integers among a law's arguments. -/
import Derived.Test.YtaifnopoojbcfaaBegins
import Derived.ProofKit
import Derived.OpenShut
import Derived.Deep.Slices
namespace Go.Proofs.Ytaifnopoojbcfaa
open Go.RowKit
open Go.ChangeShapes Go.WideShapes

theorem cells_int : Try.prog.cellsOf 3 = 1 := by kernel_rfl

section
variable {H : Type} {enc : TypeId × Value → H} {w : World} {base : Nat} {spare : Nat → Bool} {held : Bool}
theorem trod_ints {v : Value} {x : DataW H} {p : List MemPlace} (hv : ∃ a len cap, v = .slice a len cap) (h : DataW.Trod enc Try.prog w base spare held 33 v x p) :
    ∃ zs : List Int, ElV w v (iL zs) ∧ zs.length ≤ 9223372036854775807 := by
  obtain ⟨fuel, hf⟩ := h
  obtain ⟨a0, len0, cap0, rfl⟩ := hv
  rcases Go.Deep.open_slice1 Try.underlying33 cells_int hf with ⟨hcs, _⟩ | ⟨a, len, cap, m, n, V, D, Pl, hcs, _, hl, hmx, hm, _, hx⟩
  · simp [Value.cells] at hcs
    obtain ⟨rfl, rfl, rfl⟩ := hcs
    exact ⟨[], elV_nil w, by simp⟩
  · simp [Value.cells] at hcs
    obtain ⟨rfl, rfl, rfl⟩ := hcs
    have hmx' : cap0 ≤ 9223372036854775807 := by simpa [maxLen] using hmx
    by_cases h0 : len0 = 0
    · subst h0
      exact ⟨[], .inl ⟨some a, cap0, rfl, by simp, rfl⟩, by simp⟩
    · have hlm : len0 ≤ m := by rw [hm]; split <;> omega
      have hy : ∀ i, i < len0 → ∃ z : Int, w.cell? (a.add i) = some (.int .i64 z) := by
        intro i hi
        obtain ⟨h1, h2⟩ := hx i (by omega)
        obtain ⟨z, hz, _⟩ := DataW.trod_int Try.underlying3 h2
        simp only [List.cons.injEq, and_true] at hz
        exact ⟨z, by rw [h1, hz]⟩
      obtain ⟨f, hf⟩ := Go.Deep.choose_lt (α := Int) (p := fun i z => w.cell? (a.add i) = some (.int .i64 z)) hy
      obtain ⟨b, off, spot⟩ := a
      have hs : spot = none := by
        have h3 := hf 0 (by omega)
        cases spot with
        | none => rfl
        | some s =>
          exfalso
          unfold World.cell? at h3
          split at h3
          · simp [Addr.add] at h3
          · cases h3
      subst hs
      refine ⟨(List.range len0).map f, .inr ⟨b, off, cap0, by simp [iL], by simpa [iL] using hl, fun j u hu => ?_⟩, by simp; omega⟩
      have hj : j < len0 := by
        have := (List.getElem?_eq_some_iff.1 hu).1
        simpa [iL] using this
      have := hf j hj
      rw [Addr.add_lit] at this
      rw [this]
      simpa [iL, hj] using hu
end
end Go.Proofs.Ytaifnopoojbcfaa
