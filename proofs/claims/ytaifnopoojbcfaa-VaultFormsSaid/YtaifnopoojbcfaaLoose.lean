/- A region that draws its order, whose operations yield what is not known to the last bit (a slice in a new block): each slot by a predicate that old memory's keeping keeps. No program is named here. -/
import Derived.Test.YtaifnopoojbcfaaRegion
namespace Go.Proofs.Ytaifnopoojbcfaa
open Go.RowKit
section
variable {P : Program} {Q : Exit → Act → World → Prop}

/-- The state a, the region's slots filled by f. -/
def mkOf (l : List Oper) (a : Act) (f : Nat → Value) : Act := l.foldl (fun b o => match o.dst with | some t => b.put (some t) (f t) | none => b) a
def setF (f : Nat → Value) (t : Nat) (v : Value) : Nat → Value := fun n => if n = t then v else f n
def dstOf (l : List Oper) (t : Nat) : Prop := ∃ o ∈ l, o.dst = some t

theorem mkOf_get (f : Nat → Value) (t : Nat) : ∀ (l : List Oper) (a : Act), (mkOf l a f).tmps.size = a.tmps.size ∧ (mkOf l a f).defers = a.defers ∧
    (t < a.tmps.size → dstOf l t → (mkOf l a f).tmps[t]? = some (f t)) ∧ (¬ dstOf l t → (mkOf l a f).tmps[t]? = a.tmps[t]?)
  | [], a => show _ ∧ _ ∧ (_ → _ → _) ∧ (_ → _) from ⟨rfl, rfl, fun _ h => (by obtain ⟨o, ho, _⟩ := h; cases ho), fun _ => rfl⟩
  | o :: l, a => by
    cases hd : o.dst with
    | none =>
      have e : mkOf (o :: l) a f = mkOf l a f := by simp [mkOf, hd]
      have e2 : dstOf (o :: l) t ↔ dstOf l t := by
        constructor
        · rintro ⟨x, hx, hxd⟩
          rcases List.mem_cons.1 hx with rfl | hx
          · rw [hd] at hxd; cases hxd
          · exact ⟨x, hx, hxd⟩
        · rintro ⟨x, hx, hxd⟩; exact ⟨x, List.mem_cons_of_mem _ hx, hxd⟩
      rw [e, e2]
      exact mkOf_get f t l a
    | some s =>
      have e : mkOf (o :: l) a f = mkOf l (a.put (some s) (f s)) f := by simp [mkOf, hd]
      obtain ⟨h1, h2, h3, h4⟩ := mkOf_get f t l (a.put (some s) (f s))
      rw [e]
      refine ⟨by rw [h1, put_size], by rw [h2, put_defers'], fun ht hh => ?_, fun hh => ?_⟩
      · by_cases hl : dstOf l t
        · exact h3 (by rw [put_size]; exact ht) hl
        · obtain ⟨x, hx, hxd⟩ := hh
          rcases List.mem_cons.1 hx with rfl | hx
          · rw [hd] at hxd
            obtain rfl := Option.some.inj hxd
            rw [h4 hl, put_same _ _ _ ht]
          · exact absurd ⟨x, hx, hxd⟩ hl
      · have hl : ¬ dstOf l t := fun ⟨x, hx, hxd⟩ => hh ⟨x, List.mem_cons_of_mem _ hx, hxd⟩
        rw [h4 hl, put_other]
        intro hs
        exact hh ⟨o, by simp, by rw [hd, ← hs]⟩

theorem mkOf_put (l : List Oper) (a : Act) (f : Nat → Value) (t : Nat) (v : Value) (hl : dstOf l t) : (mkOf l a f).put (some t) v = mkOf l a (setF f t v) := by
  have h0 := mkOf_get f t l a
  have h1 := mkOf_get (setF f t v) t l a
  have key : ((mkOf l a f).put (some t) v).tmps = (mkOf l a (setF f t v)).tmps := by
    apply Array.ext_getElem?
    intro s
    have g0 := mkOf_get f s l a
    have g1 := mkOf_get (setF f t v) s l a
    by_cases hs : s = t
    · subst hs
      by_cases hsz : s < a.tmps.size
      · rw [put_same _ _ _ (by rw [h0.1]; exact hsz), g1.2.2.1 hsz hl]; simp [setF]
      · rw [Array.getElem?_eq_none (by rw [put_size, g0.1]; omega), Array.getElem?_eq_none (by rw [g1.1]; omega)]
    · rw [put_other _ _ _ _ (fun e => hs (Option.some.inj e).symm)]
      by_cases hd : dstOf l s
      · by_cases hsz : s < a.tmps.size
        · rw [g0.2.2.1 hsz hd, g1.2.2.1 hsz hd]; simp [setF, hs]
        · rw [Array.getElem?_eq_none (by rw [g0.1]; omega), Array.getElem?_eq_none (by rw [g1.1]; omega)]
      · rw [g0.2.2.2 hd, g1.2.2.2 hd]
  have kd : ((mkOf l a f).put (some t) v).defers = (mkOf l a (setF f t v)).defers := by rw [put_defers', h0.2.1, h1.2.1]
  revert key kd
  generalize (mkOf l a f).put (some t) v = x
  generalize mkOf l a (setF f t v) = y
  intro key kd
  cases x; cases y; simp at key kd; subst key kd; rfl

theorem mkOf_self (l : List Oper) (a : Act) : mkOf l a (fun t => a.tmps.getD t undef) = a := by
  have key : (mkOf l a (fun t => a.tmps.getD t undef)).tmps = a.tmps := by
    apply Array.ext_getElem?
    intro s
    have g := mkOf_get (fun t => a.tmps.getD t undef) s l a
    by_cases hd : dstOf l s
    · by_cases hsz : s < a.tmps.size
      · rw [g.2.2.1 hsz hd]; simp [hsz]
      · rw [Array.getElem?_eq_none (by rw [g.1]; omega), Array.getElem?_eq_none (by omega)]
    · exact g.2.2.2 hd
  have kd := (mkOf_get (fun t => a.tmps.getD t undef) 0 l a).2.1
  revert key kd
  generalize mkOf l a (fun t => a.tmps.getD t undef) = x
  intro key kd
  cases x; cases a; simp at key kd; subst key kd; rfl

/-- The slots of which an operation's order tells that they are filled. -/
def depSlots (ops : Array Oper) (o : Oper) : List Nat := (o.after.toList.filter (Region.binds .any)).filterMap fun e => (ops[e.on]?).bind (·.dst)

theorem dst_of {l : List Oper} {t : Nat} (h : (l.any fun o => o.dst == some t) = true) : dstOf l t := by
  obtain ⟨o, ho, hd⟩ := List.any_eq_true.1 h
  exact ⟨o, ho, by simpa using hd⟩
theorem dep {l : List Nat} {p : Nat → Prop} (hd : ∀ t ∈ l, p t) (t : Nat) (h : l.elem t = true) : p t := hd t (List.mem_of_elem_eq_true h)
/-- One operation's step. -/
def LooseStep (P : Program) (Q : Exit → Act → World → Prop) (w : World) (D : Nat → Value → World → Prop) (ops : Array Oper) (mk : (Nat → Value) → Act) (o : Oper) : Prop :=
  ∀ f W, Kept w W → (∀ t ∈ depSlots ops o, D t (f t) W) →
    if Region.wanted o (yielded ops (mk f).tmps) then ∀ K : Act → World → Prop, (∀ a' W', (∃ v, a' = (mk f).put o.dst v ∧ Kept W W' ∧ ∀ t, o.dst = some t → D t v W') → K a' W') → o.wp P (mk f) W K Q
    else ∀ t, o.dst = some t → D t undef W
def LooseAll (P : Program) (Q : Exit → Act → World → Prop) (w : World) (D : Nat → Value → World → Prop) (ops : Array Oper) (mk : (Nat → Value) → Act) : List Oper → Prop
  | [] => True
  | o :: r => LooseStep P Q w D ops mk o ∧ LooseAll P Q w D ops mk r
theorem looseAll_mem {w : World} {D : Nat → Value → World → Prop} {ops : Array Oper} {mk : (Nat → Value) → Act} : ∀ (l : List Oper), LooseAll P Q w D ops mk l → ∀ o ∈ l, LooseStep P Q w D ops mk o := by
  intro l
  induction l with
  | nil => intro _ o ho; cases ho
  | cons o l ih =>
    intro h x hx
    rw [LooseAll] at h
    rcases List.mem_cons.1 hx with e | hx
    · rw [e]; exact h.1
    · exact ih h.2 x hx

theorem loose_any {w : World} {a : Act} {l : List Oper} {D : Nat → Value → World → Prop} (hok : LocSpec [] l.toArray) (hmono : ∀ t v W W', D t v W → Kept W W' → D t v W')
    (hstep : LooseAll P Q w D l.toArray (mkOf l a) l) (hQ : ∀ f W, Kept w W → (∀ t, dstOf l t → D t (f t) W) → Q .normal (mkOf l a f) W) :
    ∀ (fuel : Nat) (listed : Array Bool) (f : Nat → Value) (W : World), listed.size = l.length → listed.toList.countP (fun b => !b) ≤ fuel → Kept w W → (∀ (i : Nat) o t, l.toArray[i]? = some o → listed.getD i false = true → o.dst = some t → D t (f t) W) → wpAny P .any l.toArray Q fuel listed (mkOf l a f) W := by
  have fin : ∀ (listed : Array Bool) (f : Nat → Value) (W : World), listed.size = l.length → Kept w W → (∀ (i : Nat) o t, l.toArray[i]? = some o → listed.getD i false = true → o.dst = some t → D t (f t) W) → Region.ready .any l.toArray listed = [] → Q .normal (mkOf l a f) W := by
    intro listed f W hsz hk hD hr
    have hall := all_listed (ops := l.toArray) (by simpa using hsz) hok.back hr
    refine hQ f W hk fun t ⟨o, ho, hd⟩ => ?_
    obtain ⟨i, hi, rfl⟩ := List.getElem_of_mem ho
    exact hD i l[i] t (by simp [hi]) (hall i (by simpa using hi)) hd
  intro fuel
  induction fuel with
  | zero =>
    intro listed f W hsz hc hk hD
    have hr : Region.ready .any l.toArray listed = [] := by
      rw [List.eq_nil_iff_forall_not_mem]
      intro n hn
      obtain ⟨hun, o, ho, _⟩ := mem_ready.1 hn
      have hnl : n < listed.size := by rw [hsz]; simpa using (Array.getElem?_eq_some_iff.1 ho).1
      have hz : listed.toList.countP (fun b => !b) = 0 := Nat.le_zero.1 hc
      rw [List.countP_eq_zero] at hz
      have := hz listed[n] (by simp)
      simp [Array.getD, hnl] at hun
      simp [hun] at this
    exact ⟨hr, fin listed f W hsz hk hD hr⟩
  | succ fuel ih =>
    intro listed f W hsz hc hk hD
    refine ⟨fun hr => fin listed f W hsz hk hD hr, fun n hn => ?_⟩
    obtain ⟨hun, o, ho, hdeps⟩ := mem_ready.1 hn
    have hnl : n < listed.size := by rw [hsz]; simpa using (Array.getElem?_eq_some_iff.1 ho).1
    have hsz' : (listed.setIfInBounds n true).size = l.length := by simpa using hsz
    have hc' : (listed.setIfInBounds n true).toList.countP (fun b => !b) ≤ fuel := by
      have hb : listed[n] = false := by simpa [Array.getD, hnl] using hun
      have h1 : 0 < listed.toList.countP (fun b => !b) := List.countP_pos_iff.2 ⟨listed[n], by simp, by simp [hb]⟩
      rw [Array.toList_setIfInBounds, List.countP_set (by simpa using hnl)]
      have h2 : (!listed.toList[n]'(by simpa using hnl)) = true := by simp [hb]
      rw [if_pos h2, if_neg (by simp)]
      omega
    have hmem : o ∈ l := by
      rw [List.getElem?_toArray] at ho
      exact List.mem_of_getElem? ho
    have hs := looseAll_mem l hstep o hmem f W hk (by
      intro t ht
      unfold depSlots at ht
      obtain ⟨e, he, het⟩ := List.mem_filterMap.1 ht
      obtain ⟨he1, he2⟩ := List.mem_filter.1 he
      cases ho' : l.toArray[e.on]? with
      | none => rw [ho'] at het; cases het
      | some o' =>
        rw [ho'] at het
        exact hD e.on o' t ho' (hdeps e (by simpa using he1) he2) het)
    have hput : ∀ v W', Kept W W' → (∀ t, o.dst = some t → D t v W') → wpAny P .any l.toArray Q fuel (listed.setIfInBounds n true) ((mkOf l a f).put o.dst v) W' := by
      intro v W' hkk hv
      cases hd : o.dst with
      | none =>
        refine ih _ f W' hsz' hc' (kt hk hkk) fun i o' t hi hl hd' => ?_
        by_cases hin : i = n
        · subst hin; rw [ho] at hi; obtain rfl := Option.some.inj hi; rw [hd] at hd'; cases hd'
        · refine hmono _ _ _ _ (hD i o' t hi ?_ hd') hkk
          simpa [Array.getD_eq_getD_getElem?, Array.getElem?_setIfInBounds_ne (Ne.symm hin)] using hl
      | some s =>
        rw [mkOf_put l a f s v ⟨o, hmem, hd⟩]
        refine ih _ (setF f s v) W' hsz' hc' (kt hk hkk) fun i o' t hi hl hd' => ?_
        by_cases hin : i = n
        · subst hin; rw [ho] at hi; obtain rfl := Option.some.inj hi
          have : s = t := by rw [hd] at hd'; exact Option.some.inj hd'
          subst this
          simpa [setF] using hv s hd
        · have hst : t ≠ s := fun e => hin (hok.dist i n o' o s hi ho (by rw [hd', e]) hd)
          simp only [setF, hst, if_false]
          refine hmono _ _ _ _ (hD i o' t hi ?_ hd') hkk
          simpa [Array.getD_eq_getD_getElem?, Array.getElem?_setIfInBounds_ne (Ne.symm hin)] using hl
    unfold wpOp
    simp only [ho]
    split
    · rename_i hw
      rw [if_pos hw] at hs
      refine .inl (hs _ ?_)
      rintro a' W' ⟨v, rfl, h1, h2⟩
      exact hput v W' h1 h2
    · rename_i hw
      rw [if_neg hw] at hs
      exact hput undef W (k0 W) hs

theorem wp_region_loose {id : Nat} {w : World} {a : Act} {l : List Oper} (D : Nat → Value → World → Prop) (mk : (Nat → Value) → Act) (hm : P.follows .mixedOrders = true) (hck : locsOk [] l.toArray = true)
    (hmk : ∀ f, mkOf l a f = mk f) (hmono : ∀ t v W W', D t v W → Kept W W' → D t v W') (hstep : LooseAll P Q w D l.toArray mk l)
    (hQ : ∀ f W, Kept w W → (∀ t, dstOf l t → D t (f t) W) → Q .normal (mk f) W) : (Code.region id l.toArray true).wp P Q a w := by
  obtain rfl : mkOf l a = mk := funext hmk
  refine wp_region_any hm ?_
  have := loose_any (P := P) (Q := Q) (w := w) (a := a) (l := l) (D := D) (locsOk_spec hck) hmono hstep hQ l.length (Array.replicate l.length false) (fun t => a.tmps.getD t undef) { w with drawn := w.drawn + 1 } (by simp) (by simpa using List.countP_le_length (p := fun b => !b) (l := List.replicate l.length false)) (kd (k0 w)) (fun i o t _ hl => by simp [Array.getD] at hl)
  rw [mkOf_self] at this
  simpa using this
end
end Go.Proofs.Ytaifnopoojbcfaa
