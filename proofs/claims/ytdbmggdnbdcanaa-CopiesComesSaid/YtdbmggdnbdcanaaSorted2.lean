/- The program's Sorted is the reference's. -/
import Derived.Test.YtdbmggdnbdcanaaSorted
namespace Go.Proofs.Ytdbmggdnbdcanaa
open Go.RowKit
open BigFrame

def Strict (l : List Id) : Prop := l.Pairwise fun x y => x.toNat < y.toNat
theorem strict_ext : ∀ {a b : List Id}, Strict a → Strict b → (∀ x, x ∈ a ↔ x ∈ b) → a = b
  | [], [], _, _, _ => rfl
  | [], y :: b, _, _, h => absurd ((h y).2 (by simp)) (by simp)
  | x :: a, [], _, _, h => absurd ((h x).1 (by simp)) (by simp)
  | x :: a, y :: b, ha, hb, h => by
    have ha' := List.pairwise_cons.1 ha
    have hb' := List.pairwise_cons.1 hb
    have hxy : x = y := by
      rcases List.mem_cons.1 ((h x).1 (by simp)) with e | hx
      · exact e
      · rcases List.mem_cons.1 ((h y).2 (by simp)) with e | hy
        · exact e.symm
        · have h1 := hb'.1 x hx
          have h2 := ha'.1 y hy
          omega
    subst hxy
    rw [strict_ext ha'.2 hb'.2 fun z => ⟨fun hz => ?_, fun hz => ?_⟩]
    · rcases List.mem_cons.1 ((h z).1 (by simp [hz])) with e | hz'
      · have := ha'.1 z hz
        rw [e] at this
        omega
      · exact hz'
    · rcases List.mem_cons.1 ((h z).2 (by simp [hz])) with e | hz'
      · have := hb'.1 z hz
        rw [e] at this
        omega
      · exact hz'

theorem insR_cons (y : Id) (r : List Id) (x : Id) : insR (y :: r) x = if ltB y x = true then y :: insR r x else x :: y :: r := by
  unfold insR
  by_cases h : ltB y x = true
  · simp [h]
  · simp [h]
theorem insR_mem (x z : Id) : ∀ out : List Id, z ∈ insR out x ↔ z = x ∨ z ∈ out
  | [] => by simp [insR]
  | y :: r => by
    rw [insR_cons]
    split
    · rw [List.mem_cons, insR_mem x z r, List.mem_cons]
      constructor
      · rintro (h | h | h) <;> simp [h]
      · rintro (h | h | h) <;> simp [h]
    · simp
theorem insR_strict (x : Id) : ∀ {out : List Id}, Strict out → x ∉ out → Strict (insR out x)
  | [], _, _ => by simp [insR, Strict]
  | y :: r, h, hx => by
    have h' := List.pairwise_cons.1 h
    have hne : x ≠ y := fun e => hx (by simp [e])
    have hxr : x ∉ r := fun e => hx (by simp [e])
    rw [insR_cons]
    split
    · rename_i hyx
      have hyx' : y.toNat < x.toNat := by simpa [ltB] using hyx
      refine List.pairwise_cons.2 ⟨fun z hz => ?_, insR_strict x h'.2 hxr⟩
      rcases (insR_mem x z r).1 hz with rfl | hz
      · exact hyx'
      · exact h'.1 z hz
    · rename_i hyx
      have hyx' : ¬ y.toNat < x.toNat := by simpa [ltB] using hyx
      have hlt : x.toNat < y.toNat := by
        have : x.toNat ≠ y.toNat := fun e => hne (BitVec.eq_of_toNat_eq e)
        omega
      refine List.pairwise_cons.2 ⟨fun z hz => ?_, h⟩
      rcases List.mem_cons.1 hz with rfl | hz
      · exact hlt
      · have := h'.1 z hz
        omega

theorem sortR_spec (self : Id) (l : List Id) : ∀ n, n ≤ l.length → Strict (sortR self l n) ∧ ∀ x, x ∈ sortR self l n ↔ x ∈ l.take n ∧ x ≠ self
  | 0, _ => ⟨List.Pairwise.nil, by simp [sortR]⟩
  | n + 1, hn => by
    obtain ⟨h1, h2⟩ := sortR_spec self l n (by omega)
    have hg : l.getD n 0 = l[n]'(by omega) := by simp [List.getD, show n < l.length by omega]
    have ht : ∀ x, x ∈ l.take (n + 1) ↔ x ∈ l.take n ∨ x = l[n]'(by omega) := by
      intro x
      rw [← List.take_append_getElem (show n < l.length by omega), List.mem_append, List.mem_singleton]
    rw [sortR, hg, stepR]
    split
    · rename_i hc
      refine ⟨h1, fun x => ?_⟩
      rw [h2, ht]
      rw [Bool.or_eq_true] at hc
      constructor
      · rintro ⟨a, b⟩; exact ⟨.inl a, b⟩
      · rintro ⟨a | a, b⟩
        · exact ⟨a, b⟩
        · subst a
          rcases hc with hc | hc
          · exact absurd (by simpa using hc) b
          · exact (h2 _).1 (by simpa using hc)
    · rename_i hc
      have hc' : ¬ (l[n]'(by omega) = self) ∧ ¬ (l[n]'(by omega) ∈ sortR self l n) := by
        constructor
        · intro e; exact hc (by rw [e]; simp)
        · intro e; exact hc (by rw [List.contains_iff_mem.2 e]; simp)
      refine ⟨insR_strict _ h1 hc'.2, fun x => ?_⟩
      rw [insR_mem, h2, ht]
      constructor
      · rintro (rfl | ⟨a, b⟩)
        · exact ⟨.inr rfl, hc'.1⟩
        · exact ⟨.inl a, b⟩
      · rintro ⟨a | a, b⟩
        · exact .inr ⟨a, b⟩
        · exact .inl a

theorem uniqN_spec (l : List Id) (hs : ∀ i j, i < j → j < l.length → ltB (l.getD j 0) (l.getD i 0) = false) : ∀ n, n ≤ l.length → Strict (uniqN l n) ∧ ∀ x, x ∈ uniqN l n ↔ x ∈ l.take n
  | 0, _ => ⟨List.Pairwise.nil, by simp [uniqN]⟩
  | n + 1, hn => by
    obtain ⟨h1, h2⟩ := uniqN_spec l hs n (by omega)
    have hn' : n < l.length := by omega
    have hg : ∀ k (hk : k < l.length), l.getD k 0 = l[k] := fun k hk => by simp [List.getD, hk]
    have ht : ∀ x, x ∈ l.take (n + 1) ↔ x ∈ l.take n ∨ x = l[n] := by
      intro x
      rw [← List.take_append_getElem hn', List.mem_append, List.mem_singleton]
    have hle : ∀ i (hi : i < n), (l[i]'(by omega)).toNat ≤ l[n].toNat := fun i hi => by
      have := hs i n hi hn'
      rw [hg n hn', hg i (by omega)] at this
      simpa [ltB] using this
    rw [uniqN]
    split
    · rename_i hc
      refine ⟨h1, fun x => ?_⟩
      rw [h2, ht]
      constructor
      · exact .inl
      · rintro (a | a)
        · exact a
        · rw [a, ← hg n hn', hc.2, hg (n - 1) (by omega)]
          exact List.mem_take_iff_getElem.2 ⟨n - 1, by omega, rfl⟩
    · rename_i hc
      refine ⟨List.pairwise_append.2 ⟨h1, List.pairwise_singleton _ _, fun a ha b hb => ?_⟩, fun x => ?_⟩
      · rw [List.mem_singleton, hg n hn'] at hb
        subst hb
        obtain ⟨i, hi, rfl⟩ := List.mem_take_iff_getElem.1 ((h2 a).1 ha)
        have hin : i < n := by omega
        have h3 := hle i hin
        have h0 : 0 < n := by omega
        have h4 : l[n] ≠ l[n - 1] := fun e => hc ⟨h0, by rw [hg n hn', hg (n - 1) (by omega)]; exact e⟩
        have h5 : (l[n - 1]).toNat ≤ l[n].toNat := hle (n - 1) (by omega)
        have h6 : l[n].toNat ≠ (l[n - 1]).toNat := fun e => h4 (BitVec.eq_of_toNat_eq e)
        have h7 : (l[i]'(by omega)).toNat ≤ (l[n - 1]).toNat := by
          by_cases e : i = n - 1
          · subst e; exact Nat.le_refl _
          · have := hs i (n - 1) (by omega) (by omega)
            rw [hg (n - 1) (by omega), hg i (by omega)] at this
            simpa [ltB] using this
        omega
      · rw [List.mem_append, h2, ht, List.mem_singleton, hg n hn']

theorem uniq_sortR (self : Id) (l l' : List Id) (hp : l'.Perm (without self l)) (hs : ∀ i j, i < j → j < l'.length → ltB (l'.getD j 0) (l'.getD i 0) = false) : uniqN l' l'.length = sortR self l l.length := by
  obtain ⟨h1, h2⟩ := uniqN_spec l' hs l'.length (Nat.le_refl _)
  obtain ⟨h3, h4⟩ := sortR_spec self l l.length (Nat.le_refl _)
  refine strict_ext h1 h3 fun x => ?_
  rw [h2, h4, List.take_length, List.take_length, hp.mem_iff, without, List.mem_filter]
  simp

theorem psort_any (self : Id) (v : Value) (l : List Id) (w : World) (hv : IdsV w v l) (hl : l.length ≤ 4000000000) :
    Calls Try.prog 20 #[.agg (idL self).toArray, v] w fun e w' => ∃ v', e = .returned v' ∧ OwnV w' w.heap.size v' (sortR self l l.length) ∧ Kept w w' := by
  refine (sorted_any self v l w hv hl).mono ?_
  rintro e w' ⟨v', l', rfl, hp, hs, ho, hk⟩
  rw [uniq_sortR self l l' hp hs] at ho
  exact ⟨v', rfl, ho, hk⟩
end Go.Proofs.Ytdbmggdnbdcanaa
