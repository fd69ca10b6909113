/- A region that draws its order, at whose end stand operations that turn memory, each behind all others: the head loosely, the tail in the text's order. No program is named here. -/
import Derived.Test.YtaifnopoojbcfaaLoose
import Derived.StillTail
namespace Go.Proofs.Ytaifnopoojbcfaa
open Go.RowKit
section
variable {P : Program} {Q : Exit → Act → World → Prop}

theorem count_set {l : Array Bool} {i : Nat} (hi : i < l.size) (h : l[i] = false) : (l.setIfInBounds i true).toList.countP (fun b => !b) + 1 = l.toList.countP (fun b => !b) := by
  have h1 : 0 < l.toList.countP (fun b => !b) := List.countP_pos_iff.2 ⟨l[i], by simp, by simp [h]⟩
  rw [Array.toList_setIfInBounds, List.countP_set (by simpa using hi)]
  have h2 : (!l.toList[i]'(by simpa using hi)) = true := by simp [h]
  rw [if_pos h2, if_neg (by simp)]
  omega

theorem head_done {ops : Array Oper} {n : Nat} {listed : Array Bool} (hn : n ≤ ops.size) (inv : HeadInv .any ops n listed) (h : ∀ i, i < n → listed.getD i true = true) :
    listed = Array.replicate n true ++ Array.replicate (ops.size - n) false := by
  apply Array.ext_getElem?
  intro i
  have hsz := inv.size
  by_cases h1 : i < n
  · have := h i h1
    rw [Array.getElem?_append_left (by simpa using h1)]
    simp [Array.getD, show i < listed.size by omega] at this
    simp [h1, show i < listed.size by omega, this]
  · by_cases h2 : i < ops.size
    · have := inv.tail i (by omega) h2
      simp [Array.getD, show i < listed.size by omega] at this
      rw [Array.getElem?_append_right (by simpa using h1)]
      simp [show i < listed.size by omega, this, show i - n < ops.size - n by omega]
    · rw [Array.getElem?_eq_none (by omega), Array.getElem?_eq_none (by simp; omega)]

theorem loose_tail {w : World} {a : Act} {l : List Oper} {n : Nat} {D : Nat → Value → World → Prop} (hn : n < l.length) (hs : Region.sinkB .any l.toArray n = true) (hc : Region.chainB .any l.toArray n = true)
    (hseq : Region.seqB .any l.toArray (l.drop n).length n (Array.replicate n true ++ Array.replicate (l.toArray.size - n) false) = true)
    (hok : LocSpec [] l.toArray) (hmono : ∀ t v W W', D t v W → Kept W W' → D t v W')
    (hstep : LooseAll P Q w D l.toArray (mkOf (l.take n) a) (l.take n)) (hQ : ∀ f W, Kept w W → (∀ t, dstOf (l.take n) t → D t (f t) W) → wpList P l.toArray Q (l.drop n) (mkOf (l.take n) a f) W) :
    ∀ (fuel : Nat) (listed : Array Bool) (f : Nat → Value) (W : World), HeadInv .any l.toArray n listed → listed.toList.countP (fun b => !b) = fuel → Kept w W →
      (∀ (i : Nat) o t, i < n → l.toArray[i]? = some o → listed.getD i false = true → o.dst = some t → D t (f t) W) → wpAny P .any l.toArray Q fuel listed (mkOf (l.take n) a f) W := by
  intro fuel
  induction fuel with
  | zero =>
    intro listed f W inv hcnt hk hD
    exfalso
    have h1 := inv.tail n (Nat.le_refl _) (by simpa using hn)
    have hsz := inv.size
    have hlt : n < listed.size := by rw [hsz]; simpa using hn
    rw [List.countP_eq_zero] at hcnt
    have := hcnt listed[n] (by simp)
    simp [Array.getD, hlt] at h1
    simp [h1] at this
  | succ fuel ih =>
    intro listed f W inv hcnt hk hD
    by_cases hall : ∀ i, i < n → listed.getD i true = true
    · have he := head_done (ops := l.toArray) (by simp; omega) inv hall
      have hfu : fuel + 1 = (l.drop n).length := by
        rw [← hcnt, he]
        simp [List.countP_replicate]
      rw [hfu]
      refine wpAny_of_seq (l.drop n) n listed _ W (fun j => by simp) (by rw [he]; exact hseq) (hQ f W hk fun t ⟨o, ho, hd⟩ => ?_)
      obtain ⟨i, hi, rfl⟩ := List.getElem_of_mem ho
      have hin : i < n := by simp at hi; omega
      have hil : i < l.length := by omega
      have hg := hall i hin
      have hsz := inv.size
      refine hD i (l.take n)[i] t hin (by simp [hil]) ?_ hd
      simp [Array.getD, show i < listed.size by rw [hsz]; simpa using hil] at hg ⊢
      exact hg
    · obtain ⟨i0, hi0, hun0⟩ : ∃ i, i < n ∧ listed.getD i true = false := by
        apply Classical.byContradiction
        intro hno
        apply hall
        intro i hi
        cases hb : listed.getD i true with
        | true => rfl
        | false => exact absurd ⟨i, hi, hb⟩ hno
      have hnone : ∀ t, n ≤ t → t ∉ Region.ready .any l.toArray listed := tail_waits hs hc (by simpa using hn) inv _ i0 rfl hi0 hun0
      refine ⟨fun hr => ?_, fun m hm => ?_⟩
      · exfalso
        have hal := all_listed (ops := l.toArray) (by rw [inv.size]) hok.back hr
        have := hal i0 (by simp; omega)
        rw [getD_both hun0] at this
        cases this
      · have hmn : m < n := by
          rcases Nat.lt_or_ge m n with h | h
          · exact h
          · exact absurd hm (hnone m h)
        obtain ⟨hun, o, ho, hdeps⟩ := mem_ready.1 hm
        have hml : m < l.length := by omega
        have hnl : m < listed.size := by rw [inv.size]; simpa using hml
        have hb : listed[m] = false := by simpa [Array.getD, hnl] using hun
        have inv' := inv.set hm hmn
        have hc' : (listed.setIfInBounds m true).toList.countP (fun b => !b) = fuel := by have := count_set hnl hb; omega
        have hmem : o ∈ l.take n := by
          rw [List.getElem?_toArray] at ho
          have : (l.take n)[m]? = some o := by rw [List.getElem?_take_of_lt hmn]; exact ho
          exact List.mem_of_getElem? this
        have hst := looseAll_mem (l.take n) hstep o hmem f W hk (by
          intro t ht
          unfold depSlots at ht
          obtain ⟨e, he, het⟩ := List.mem_filterMap.1 ht
          obtain ⟨he1, he2⟩ := List.mem_filter.1 he
          cases ho' : l.toArray[e.on]? with
          | none => rw [ho'] at het; cases het
          | some o' =>
            rw [ho'] at het
            have hel := hdeps e (by simpa using he1) he2
            have hen : e.on < n := by
              rcases Nat.lt_or_ge e.on n with h | h
              · exact h
              · exfalso
                have := inv.tail e.on h (Array.getElem?_eq_some_iff.1 ho').1
                rw [getD_both this] at hel
                cases hel
            exact hD e.on o' t hen ho' hel het)
        have hput : ∀ v W', Kept W W' → (∀ t, o.dst = some t → D t v W') → wpAny P .any l.toArray Q fuel (listed.setIfInBounds m true) ((mkOf (l.take n) a f).put o.dst v) W' := by
          intro v W' hkk hv
          cases hd : o.dst with
          | none =>
            refine ih _ f W' inv' hc' (kt hk hkk) fun i o' t hin hi hl hd' => ?_
            by_cases him : i = m
            · subst him; rw [ho] at hi; obtain rfl := Option.some.inj hi; rw [hd] at hd'; cases hd'
            · refine hmono _ _ _ _ (hD i o' t hin hi ?_ hd') hkk
              simpa [Array.getD_eq_getD_getElem?, Array.getElem?_setIfInBounds_ne (Ne.symm him)] using hl
          | some s =>
            rw [mkOf_put (l.take n) a f s v ⟨o, hmem, hd⟩]
            refine ih _ (setF f s v) W' inv' hc' (kt hk hkk) fun i o' t hin hi hl hd' => ?_
            by_cases him : i = m
            · subst him; rw [ho] at hi; obtain rfl := Option.some.inj hi
              have : s = t := by rw [hd] at hd'; exact Option.some.inj hd'
              subst this
              simpa [setF] using hv s hd
            · have hst : t ≠ s := fun e => him (hok.dist i m o' o s hi ho (by rw [hd', e]) hd)
              simp only [setF, hst, if_false]
              refine hmono _ _ _ _ (hD i o' t hin hi ?_ hd') hkk
              simpa [Array.getD_eq_getD_getElem?, Array.getElem?_setIfInBounds_ne (Ne.symm him)] using hl
        unfold wpOp
        simp only [ho]
        split
        · rename_i hw
          rw [if_pos hw] at hst
          refine .inl (hst _ ?_)
          rintro a' W' ⟨v, rfl, h1, h2⟩
          exact hput v W' h1 h2
        · rename_i hw
          rw [if_neg hw] at hst
          exact hput undef W (k0 W) hst

theorem wp_region_tail {id : Nat} {w : World} {a : Act} {l : List Oper} (n : Nat) (D : Nat → Value → World → Prop) (mk : (Nat → Value) → Act) (hm : P.follows .mixedOrders = true)
    (hck : (decide (n < l.length) && Region.sinkB .any l.toArray n && Region.chainB .any l.toArray n && Region.seqB .any l.toArray (l.drop n).length n (Array.replicate n true ++ Array.replicate (l.toArray.size - n) false) && locsOk [] l.toArray) = true)
    (hmk : ∀ f, mkOf (l.take n) a f = mk f) (hmono : ∀ t v W W', D t v W → Kept W W' → D t v W') (hstep : LooseAll P Q w D l.toArray mk (l.take n))
    (hQ : ∀ f W, Kept w W → (∀ t, dstOf (l.take n) t → D t (f t) W) → wpList P l.toArray Q (l.drop n) (mk f) W) : (Code.region id l.toArray true).wp P Q a w := by
  obtain rfl : mkOf (l.take n) a = mk := funext hmk
  simp only [Bool.and_eq_true, decide_eq_true_eq] at hck
  obtain ⟨⟨⟨⟨h1, h2⟩, h3⟩, h4⟩, h5⟩ := hck
  refine wp_region_any hm ?_
  have inv0 : HeadInv .any l.toArray n (Array.replicate l.length false) := by
    refine ⟨by simp, fun j oj _ hl => ?_, fun t _ ht => ?_⟩
    · rw [getD_replicate_false] at hl; cases hl
    · have : t < l.length := by simpa using ht
      simp [Array.getD, this]
  have := loose_tail (P := P) (Q := Q) (w := w) (a := a) (l := l) (D := D) h1 h2 h3 h4 (locsOk_spec h5) hmono hstep hQ l.length (Array.replicate l.length false) (fun t => a.tmps.getD t undef) { w with drawn := w.drawn + 1 } inv0 (by simp [List.countP_replicate]) (kd (k0 w)) (fun i o t _ _ hl => by rw [getD_replicate_false] at hl; cases hl)
  rw [mkOf_self] at this
  simpa using this
end
end Go.Proofs.Ytaifnopoojbcfaa
