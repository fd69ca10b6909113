/- slices.SortFunc at identities: a permutation, sorted. -/
import Derived.Test.YtdbmggdnbdcanaaSort
import Derived.Shelf.SlSortCmp.NoneTotal
namespace Go.Proofs.Ytdbmggdnbdcanaa
open Go.RowKit
open BigFrame
open Go.Sort (flatK size_flatK get_flatK HoldsK)

theorem ltB_nat (x y : Id) : ltB x y = decide (x.toNat < y.toNat) := rfl
theorem ltOf_cmp (x y : Id) : ltOf cmpI x y = ltB x y := by
  unfold ltOf cmpI ltB
  by_cases h1 : x.toNat < y.toNat
  · simp [h1]
  · by_cases h2 : y.toNat < x.toNat <;> simp [h1, h2]
theorem swo_cmp : Go.Sort.SWO (ltOf cmpI) where
  irrefl x := by rw [ltOf_cmp, ltB_nat]; simp
  trans x y z h1 h2 := by rw [ltOf_cmp, ltB_nat] at *; simp at *; omega
  ntrans x y z h1 h2 := by rw [ltOf_cmp, ltB_nat] at *; simp at *; omega

theorem below_sorted {w : World} {g B : Nat} (hg : B ≤ g) (n : Nat) (d : Array Id) (os : Array Obj) (hB : B ≤ w.heap.size) : Below B w (sortWorldK idL 16 w g 0 n d os) := by
  refine ⟨rfl, rfl, rfl, ?_, fun k hk => ?_⟩
  · simp [sortWorldK, Go.Sort.grow, Go.Sort.putRowK, Go.Sort.putRow, Go.Sort.mapBlock, Go.Sort.ahead]
  · unfold sortWorldK Go.Sort.grow Go.Sort.putRowK Go.Sort.putRow Go.Sort.mapBlock Go.Sort.ahead
    simp only
    rw [Array.getElem?_append_left (by simp; omega), Array.getElem?_modify, if_neg (by omega)]

theorem sort_any (B : Nat) (v : Value) (l : List Id) (w : World) (hv : OwnV w B v l) (hB : B ≤ w.heap.size) (hl : l.length < 4611686018427387904) :
    Calls Try.prog 29 #[v, .func (.func 30) #[] #[]] w fun e w' => e = .returned (.tuple #[]) ∧ ∃ l', l'.Perm l ∧ (∀ i j, i < j → j < l'.length → ltB (l'.getD j 0) (l'.getD i 0) = false) ∧ OwnV w' B v l' ∧ Below B w w' := by
  rcases hv with ⟨rfl, rfl⟩ | ⟨g, cap, rfl, hg, hown⟩
  · have h := AnyF.slices_SortFunc_none Try.sortIds none 0 (.func (.func 30) #[] #[]) w
    change Calls Try.prog 29 _ _ _ at h
    refine h.mono ?_
    rintro e w' ⟨rfl, rfl⟩
    exact ⟨rfl, [], List.Perm.refl _, fun i j _ hj => absurd hj (by simp), .inl ⟨rfl, rfl⟩, Below.refl _ _⟩
  · have eg : ∀ args w, (callFunc 30 args).run Try.prog w = .ok (.enter 30 args) w := enters_of Try.func30 (by kernel_rfl) rfl
    have hcl : CmpLays Try.prog 30 #[] idL 16 cmpI g 0 l.toArray.size w := fun m os dk hs x y => compare_grow x y _
    have h := AnyQ.slices_SortFunc Try.sortIds 16 Try.isAgg23 Try.sizeOf23 idL (fun x => idL_length x) (fun x u hu => by
      have := rowOk_id x
      unfold rowOk at this
      simp only [Bool.and_eq_true, Array.all_eq_true_iff_forall_mem] at this
      exact this.2 u (by simpa using hu)) cmpI swo_cmp 30 #[] g 0 cap l.toArray w eg hcl (own_holds hown) (own_lt hown) (by simpa using hl)
    change Calls Try.prog 29 _ _ _ at h
    refine h.mono ?_
    rintro e w' ⟨rfl, d', n, os, hp, hs, rfl⟩
    have hd : d'.size = l.length := by simpa using hp.1
    refine ⟨rfl, d'.toList, ?_, ?_, .inr ⟨g, cap, by simp [hd], hg, own_sorted hown n d' hd os⟩, below_sorted hg n d' os hB⟩
    · have := hp.2.2
      rw [Array.extract_eq_self_of_le (by simp [hd]), Array.extract_eq_self_of_le (by simp)] at this
      simpa using this
    · intro i j hij hj
      have := hs i j (Nat.zero_le _) hij (by simpa [hd] using hj)
      rw [ltOf_cmp] at this
      have hj' : j < d'.size := by simpa using hj
      have hi' : i < d'.size := by omega
      rw [getElem!_pos d' j hj', getElem!_pos d' i hi'] at this
      simpa [List.getD, hj', hi'] using this
end Go.Proofs.Ytdbmggdnbdcanaa
