/- A region that draws its order, whose operations and callees make memory but turn none, and which lays values in variables of its own ('x, y := f(a), g(b)'): one walk of the text's order serves every order. No program is named here. -/
import Derived.Test.YtaifnopoojbcfaaKit
namespace Go.Proofs.Ytaifnopoojbcfaa
open Go.RowKit
section
variable {P : Program} {md : Region.Mode}

/-- A variable that the region makes (operation i, slot d) and fills (operation j) out of slot s: its type, its cells, what it comes to hold. -/
structure Loc where
  i : Nat
  j : Nat
  d : Nat
  s : Nat
  t : TypeId
  k : Nat
  L : List Value

def nopOf (o : Oper) : Oper := { dst := none, op := .move (.const undef), type := o.type, pos := o.pos, after := o.after, guard := none }
def nopAt (is : List Nat) : Nat → List Oper → List Oper
  | _, [] => []
  | n, o :: l => (if is.elem n = true then nopOf o else o) :: nopAt is (n + 1) l

theorem nopAt_get (is : List Nat) : ∀ (l : List Oper) (n k : Nat), (nopAt is n l)[k]? = (l[k]?).map fun o => if is.elem (n + k) = true then nopOf o else o
  | [], _, _ => by simp [nopAt]
  | o :: l, n, 0 => by simp [nopAt]
  | o :: l, n, k + 1 => by
    simp only [nopAt, List.getElem?_cons_succ]
    rw [nopAt_get is l (n + 1) k, show n + 1 + k = n + (k + 1) by omega]
theorem nopAt_length (is : List Nat) : ∀ (l : List Oper) (n : Nat), (nopAt is n l).length = l.length
  | [], _ => rfl
  | o :: l, n => by simp [nopAt, nopAt_length is l (n + 1)]

theorem nop_get (is : List Nat) (l : List Oper) (k : Nat) : (nopAt is 0 l).toArray[k]? = (l.toArray[k]?).map fun o => if is.elem k = true then nopOf o else o := by
  have := nopAt_get is l 0 k
  simpa using this

theorem ready_nop (is : List Nat) (l : List Oper) (listed : Array Bool) : Region.ready md (nopAt is 0 l).toArray listed = Region.ready md l.toArray listed := by
  unfold Region.ready
  simp only [List.size_toArray, nopAt_length]
  apply List.filter_congr
  intro i _
  rw [nop_get]
  cases h : l.toArray[i]? with
  | none => rfl
  | some o =>
    simp only [Option.map_some]
    split <;> rfl

theorem put_other (a : Act) (dst : Option Tmp) (v : Value) (t : Nat) (h : dst ≠ some t) : (a.put dst v).tmps[t]? = a.tmps[t]? := by
  cases dst with
  | none => rfl
  | some d =>
    have : d ≠ t := fun e => h (by rw [e])
    simp [Act.put, Array.getElem?_setIfInBounds_ne this]
theorem put_size (a : Act) (dst : Option Tmp) (v : Value) : (a.put dst v).tmps.size = a.tmps.size := by
  cases dst <;> simp [Act.put]
theorem put_defers' (a : Act) (dst : Option Tmp) (v : Value) : (a.put dst v).defers = a.defers := by
  cases dst <;> rfl
theorem put_same (a : Act) (d : Nat) (v : Value) (h : d < a.tmps.size) : (a.put (some d) v).tmps[d]? = some v := by
  simp [Act.put, h]
theorem put_inj (a : Act) (t : Nat) (v v' : Value) (h : (a.put (some t) v).tmps[t]? = (a.put (some t) v').tmps[t]?) : a.put (some t) v = a.put (some t) v' := by
  by_cases ht : t < a.tmps.size
  · rw [put_same a t v ht, put_same a t v' ht] at h
    simp only [Option.some.injEq] at h
    rw [h]
  · have e : ∀ u, a.put (some t) u = a := fun u => by
      simp [Act.put, Array.setIfInBounds, ht]
    rw [e, e]

/-- A slot that nothing writes any more holds what it holds at the end. -/
theorem final_slot {ops : Array Oper} {C : World → Prop} {af : Act} {t : Nat} : ∀ (fuel : Nat) (listed : Array Bool) (a : Act), wpAnyQ P md ops C (fun a => a = af) fuel listed a →
    (∀ k o, ops[k]? = some o → listed.getD k true = false → o.dst ≠ some t) → a.tmps[t]? = af.tmps[t]?
  | 0, _, _, h, _ => by rw [h.2]
  | fuel + 1, listed, a, h, hw => by
    cases hr : Region.ready md ops listed with
    | nil => rw [h.1 hr]
    | cons i rest =>
      have hi : i ∈ Region.ready md ops listed := by rw [hr]; exact List.mem_cons_self
      obtain ⟨hun, o, ho, _⟩ := mem_ready.1 hi
      have h1 := h.2 i hi
      have hne := hw i o ho hun
      have key : ∀ v, wpAnyQ P md ops C (fun a => a = af) fuel (listed.setIfInBounds i true) (a.put o.dst v) → a.tmps[t]? = af.tmps[t]? := fun v hv => by
        have := final_slot fuel _ _ hv (fun k o' hk hu => by
          refine hw k o' hk ?_
          by_cases hki : i = k
          · subst hki; exact hun
          · rw [getD_set_ne true hki] at hu; exact hu)
        rwa [put_other a o.dst v t hne] at this
      unfold qOp at h1
      simp only [ho] at h1
      split at h1
      · obtain ⟨v, _, hv⟩ := h1; exact key v hv
      · exact key undef h1

/-- Quiet from every later world on. -/
def Quiets (P : Program) (md : Region.Mode) (ops : Array Oper) (w : World) (af : Act) (fuel : Nat) (listed : Array Bool) (a : Act) : Prop :=
  ∀ V, Kept w V → wpAnyQ P md ops (fun W => ∃ p, W = later V p) (fun a => a = af) fuel listed a

theorem later_self (V : World) : ∃ p, V = later V p := later_kept (k0 V)

theorem quiets_step {ops : Array Oper} {w : World} {af a : Act} {fuel i : Nat} {listed : Array Bool} {o : Oper} (hdist : ∀ (k k' : Nat) (o o' : Oper) (t : Nat), ops[k]? = some o → ops[k']? = some o' → o.dst = some t → o'.dst = some t → k = k')
    (h : Quiets P md ops w af (fuel + 1) listed a) (hi : i ∈ Region.ready md ops listed) (ho : ops[i]? = some o) :
    (Region.wanted o (yielded ops a.tmps) = true → ∀ V, Kept w V → ∃ v, o.quietAt P a (fun W => ∃ p, W = later V p) V v ∧ Quiets P md ops w af fuel (listed.setIfInBounds i true) (a.put o.dst v)) ∧
    (Region.wanted o (yielded ops a.tmps) = false → Quiets P md ops w af fuel (listed.setIfInBounds i true) (a.put o.dst undef)) := by
  have hun := (mem_ready.1 hi).1
  have hlt : i < listed.size := by
    by_cases hh : i < listed.size
    · exact hh
    · simp [Array.getD, hh] at hun
  have step : ∀ V, Kept w V → qOp P ops (fun W => ∃ p, W = later V p) i (wpAnyQ P md ops (fun W => ∃ p, W = later V p) (fun a => a = af) fuel (listed.setIfInBounds i true)) a := fun V hV => (h V hV).2 i hi
  have fin : ∀ (C : World → Prop) (v : Value) (t : Nat), o.dst = some t → wpAnyQ P md ops C (fun a => a = af) fuel (listed.setIfInBounds i true) (a.put o.dst v) → (a.put o.dst v).tmps[t]? = af.tmps[t]? := fun C v t ht hv =>
    final_slot fuel _ _ hv (fun k o' hk hu hd => by
      have := hdist i k o o' t ho hk ht hd
      subst this
      simp [Array.getD, hlt] at hu)
  refine ⟨fun hw V hV => ?_, fun hw V hV => ?_⟩
  · have h1 := step V hV
    unfold qOp at h1
    simp only [ho, hw, if_true] at h1
    obtain ⟨v, hq, hn⟩ := h1
    refine ⟨v, hq V (later_self V), fun V' hV' => ?_⟩
    have h2 := step V' hV'
    unfold qOp at h2
    simp only [ho, hw, if_true] at h2
    obtain ⟨v', _, hn'⟩ := h2
    cases hd : o.dst with
    | none => rw [hd] at hn'; exact hn'
    | some t =>
      have e : a.put (some t) v = a.put (some t) v' := put_inj a t v v' (by
        have e1 := fin _ v t hd hn
        have e2 := fin _ v' t hd hn'
        rw [hd] at e1 e2
        rw [e1, e2])
      rw [e]; rw [hd] at hn'; exact hn'
  · have h1 := step V hV
    unfold qOp at h1
    simp only [ho, hw] at h1
    simpa using h1

/-- What is asked of the region's text. -/
def locsOk (ls : List Loc) (ops : Array Oper) : Bool :=
  (ls.all fun c =>
    (match ops[c.i]? with
     | some o => (match o.op with | .alloc t => t == c.t | _ => false) && o.dst == some c.d && o.guard.isNone
     | none => false) &&
    (match ops[c.j]? with
     | some o => (match o.op with | .store t (.tmp d) (.tmp s) => t == c.t && d == c.d && s == c.s | _ => false) && o.dst.isNone && o.guard.isNone &&
        (o.after.any fun e => Region.binds .any e && e.on == c.i) &&
        ((List.range ops.size).all fun k => match ops[k]? with | some o' => o'.dst != some c.s || (o.after.any fun e => Region.binds .any e && e.on == k) | none => true)
     | none => false) &&
    (ls.all fun c' => c'.d != c.s) &&
    (ls.all fun c' => c.i != c'.j) &&
    (ls.all fun c' => (c.d != c'.d && c.i != c'.i && c.j != c'.j) || (c.i == c'.i && c.j == c'.j && c.d == c'.d && c.k == c'.k))) &&
  ((List.range ops.size).all fun n => match ops[n]? with
    | some o => (ls.any fun c => c.i == n || c.j == n) || (ls.all fun c => !(o.looksAt ops).contains c.d && o.dst != some c.d)
    | none => true) &&
  ((List.range ops.size).all fun n => (List.range ops.size).all fun m => n == m || match ops[n]?, ops[m]? with
    | some o, some o' => o.dst.isNone || o.dst != o'.dst
    | _, _ => true) &&
  ((List.range ops.size).all fun n => match ops[n]? with | some o => o.after.all fun e => !Region.binds .any e || decide (e.on < n) | none => true)

structure LocSpec (ls : List Loc) (ops : Array Oper) : Prop where
  alloc : ∀ c ∈ ls, ∃ o, ops[c.i]? = some o ∧ o.op = .alloc c.t ∧ o.dst = some c.d ∧ o.guard = none
  store : ∀ c ∈ ls, ∃ o, ops[c.j]? = some o ∧ o.op = .store c.t (.tmp c.d) (.tmp c.s) ∧ o.dst = none ∧ o.guard = none ∧ (∃ e ∈ o.after, Region.binds .any e = true ∧ e.on = c.i) ∧
    ∀ k o', ops[k]? = some o' → o'.dst = some c.s → ∃ e ∈ o.after, Region.binds .any e = true ∧ e.on = k
  src : ∀ c ∈ ls, ∀ c' ∈ ls, c'.d ≠ c.s
  ij : ∀ c ∈ ls, ∀ c' ∈ ls, c.i ≠ c'.j
  inj : ∀ c ∈ ls, ∀ c' ∈ ls, (c.d ≠ c'.d ∧ c.i ≠ c'.i ∧ c.j ≠ c'.j) ∨ (c.i = c'.i ∧ c.j = c'.j ∧ c.d = c'.d ∧ c.k = c'.k)
  other : ∀ (n : Nat) (o : Oper), ops[n]? = some o → (∀ c ∈ ls, c.i ≠ n ∧ c.j ≠ n) → ∀ c ∈ ls, c.d ∉ o.looksAt ops ∧ o.dst ≠ some c.d
  dist : ∀ (n m : Nat) (o o' : Oper) (t : Nat), ops[n]? = some o → ops[m]? = some o' → o.dst = some t → o'.dst = some t → n = m
  back : ∀ (n : Nat) (o : Oper), ops[n]? = some o → ∀ e ∈ o.after, Region.binds .any e = true → e.on < n

theorem locsOk_spec {ls : List Loc} {ops : Array Oper} (h : locsOk ls ops = true) : LocSpec ls ops := by
  unfold locsOk at h
  simp only [Bool.and_eq_true, List.all_eq_true, List.mem_range] at h
  obtain ⟨⟨⟨h1, h2⟩, h3⟩, h4⟩ := h
  refine ⟨fun c hc => ?_, fun c hc => ?_, fun c hc c' hc' => ?_, fun c hc c' hc' => ?_, fun c hc c' hc' => ?_, fun n o ho hn c hc => ?_, fun n m o o' t ho ho' hd hd' => ?_, fun n o ho e he hb => ?_⟩
  · have := (h1 c hc).1.1.1.1
    split at this
    · rename_i o ho
      simp only [Bool.and_eq_true, Option.isNone_iff_eq_none, beq_iff_eq] at this
      obtain ⟨⟨ha, hd⟩, hg⟩ := this
      refine ⟨o, ho, ?_, hd, hg⟩
      split at ha
      · rename_i t ht; rw [ht]; simp at ha; rw [ha]
      · cases ha
    · cases this
  · have := (h1 c hc).1.1.1.2
    split at this
    · rename_i o ho
      simp only [Bool.and_eq_true, Option.isNone_iff_eq_none] at this
      obtain ⟨⟨⟨⟨ha, hd⟩, hg⟩, he⟩, hs⟩ := this
      refine ⟨o, ho, ?_, hd, hg, ?_, fun k o' hk hk' => ?_⟩
      · split at ha
        · rename_i t d s ht
          simp only [Bool.and_eq_true, beq_iff_eq] at ha
          rw [ht, ha.1.1, ha.1.2, ha.2]
        · cases ha
      · obtain ⟨e, he1, he2⟩ := Array.any_eq_true'.1 he
        simp only [Bool.and_eq_true, beq_iff_eq] at he2
        exact ⟨e, he1, he2.1, he2.2⟩
      · rw [List.all_eq_true] at hs
        have := hs k (List.mem_range.2 (Array.getElem?_eq_some_iff.1 hk).1)
        rw [hk] at this
        simp only [Bool.or_eq_true] at this
        rcases this with h5 | h5
        · simp [hk'] at h5
        · obtain ⟨e, he1, he2⟩ := Array.any_eq_true'.1 h5
          simp only [Bool.and_eq_true, beq_iff_eq] at he2
          exact ⟨e, he1, he2.1, he2.2⟩
    · cases this
  · have := (h1 c hc).1.1.2 c' hc'
    simpa using this
  · have := (h1 c hc).1.2 c' hc'
    simpa using this
  · have := (h1 c hc).2 c' hc'
    simp only [Bool.or_eq_true, Bool.and_eq_true, bne_iff_ne, beq_iff_eq] at this
    rcases this with h5 | h5
    · exact .inl ⟨h5.1.1, h5.1.2, h5.2⟩
    · exact .inr ⟨h5.1.1.1, h5.1.1.2, h5.1.2, h5.2⟩
  · have := h2 n (Array.getElem?_eq_some_iff.1 ho).1
    rw [ho] at this
    simp only [Bool.or_eq_true, List.any_eq_true, List.all_eq_true, Bool.and_eq_true, beq_iff_eq, bne_iff_ne, Bool.not_eq_true', ] at this
    rcases this with ⟨c', hc', h5 | h5⟩ | h5
    · exact absurd h5 (hn c' hc').1
    · exact absurd h5 (hn c' hc').2
    · have h6 := h5 c hc
      exact ⟨fun hm => by simp [hm] at h6, h6.2⟩
  · by_cases e : n = m
    · exact e
    · have := h3 n (Array.getElem?_eq_some_iff.1 ho).1 m (Array.getElem?_eq_some_iff.1 ho').1
      rw [ho, ho'] at this
      simp [e, hd, hd'] at this
  · have := h4 n (Array.getElem?_eq_some_iff.1 ho).1
    rw [ho] at this
    have h5 := Array.all_eq_true'.1 this e he
    simpa [hb] using h5

/-- How the region's own run stands to the quiet one. -/
structure Rel (ls : List Loc) (w : World) (listed : Array Bool) (a a' : Act) (W : World) (β : Nat → Nat) : Prop where
  defers : a.defers = a'.defers
  size : a.tmps.size = a'.tmps.size
  same : ∀ t, (∀ c ∈ ls, c.d ≠ t) → a.tmps[t]? = a'.tmps[t]?
  room : ∀ c ∈ ls, c.d < a.tmps.size
  kept : Kept w W
  first : ∀ c ∈ ls, listed.getD c.j false = true → listed.getD c.i false = true
  slot : ∀ c ∈ ls, listed.getD c.i false = true → a.tmps[c.d]? = some (.pointer (some ⟨β c.d, 0, none⟩)) ∧ w.heap.size ≤ β c.d ∧ canPut W (β c.d) 0 c.k = true
  row : ∀ c ∈ ls, listed.getD c.j false = true → rowAt W (β c.d) 0 c.k = some c.L
  apart : ∀ c ∈ ls, ∀ c' ∈ ls, listed.getD c.i false = true → listed.getD c'.i false = true → c.d ≠ c'.d → β c.d ≠ β c'.d

theorem getD_set_self {listed : Array Bool} {i : Nat} (h : i < listed.size) : (listed.setIfInBounds i true).getD i false = true := by
  simp [Array.getD, h]

section sim
variable {l : List Oper} {ls : List Loc} {w : World} {af : Act} {Q : Exit → Act → World → Prop} {is : List Nat}

theorem rel_world {listed : Array Bool} {a a' : Act} {W W1 : World} {β : Nat → Nat} (h : Rel ls w listed a a' W β) (hk : Kept W W1) : Rel ls w listed a a' W1 β :=
  { h with
    kept := kt h.kept hk
    slot := fun c hc hl => ⟨(h.slot c hc hl).1, (h.slot c hc hl).2.1, canPut_below hk (h.slot c hc hl).2.2⟩
    row := fun c hc hl => rowAt_below hk (h.row c hc hl) }

theorem rel_put {listed : Array Bool} {a a' : Act} {W : World} {β : Nat → Nat} {n : Nat} (h : Rel ls w listed a a' W β) (hn : ∀ c ∈ ls, c.i ≠ n ∧ c.j ≠ n) (dst : Option Tmp) (hd : ∀ c ∈ ls, dst ≠ some c.d) (v : Value) :
    Rel ls w (listed.setIfInBounds n true) (a.put dst v) (a'.put dst v) W β := by
  have gi : ∀ c ∈ ls, (listed.setIfInBounds n true).getD c.i false = listed.getD c.i false := fun c hc => getD_set_ne false (Ne.symm (hn c hc).1)
  have gj : ∀ c ∈ ls, (listed.setIfInBounds n true).getD c.j false = listed.getD c.j false := fun c hc => getD_set_ne false (Ne.symm (hn c hc).2)
  refine { defers := by rw [put_defers', put_defers']; exact h.defers, size := by rw [put_size, put_size]; exact h.size, same := fun t ht => ?_, room := fun c hc => by rw [put_size]; exact h.room c hc, kept := h.kept, first := fun c hc hl => ?_, slot := fun c hc hl => ?_, row := fun c hc hl => ?_, apart := fun c hc c' hc' h1 h2 h3 => ?_ }
  · cases dst with
    | none => exact h.same t ht
    | some d =>
      by_cases e : d = t
      · subst e
        by_cases hs : d < a.tmps.size
        · rw [put_same a d v hs, put_same a' d v (by rw [← h.size]; exact hs)]
        · rw [Array.getElem?_eq_none (by rw [put_size]; exact Nat.le_of_not_lt hs), Array.getElem?_eq_none (by rw [put_size, ← h.size]; exact Nat.le_of_not_lt hs)]
      · rw [put_other a _ v t (by simpa using e), put_other a' _ v t (by simpa using e)]; exact h.same t ht
  · rw [gj c hc] at hl; rw [gi c hc]; exact h.first c hc hl
  · rw [gi c hc] at hl
    obtain ⟨h1, h2, h3⟩ := h.slot c hc hl
    exact ⟨by rw [put_other a dst v c.d (hd c hc)]; exact h1, h2, h3⟩
  · rw [gj c hc] at hl; exact h.row c hc hl
  · rw [gi c hc] at h1; rw [gi c' hc'] at h2; exact h.apart c hc c' hc' h1 h2 h3

theorem rel_alloc {listed : Array Bool} {a a' : Act} {W : World} {β : Nat → Nat} {c : Loc} (hok : LocSpec ls l.toArray) (hc : c ∈ ls) (h : Rel ls w listed a a' W β) (hun : listed.getD c.i true = false) (hsz : c.i < listed.size) (z : Array Value) (hz : z.size = c.k) :
    Rel ls w (listed.setIfInBounds c.i true) (a.put (some c.d) (.pointer (some ⟨W.heap.size, 0, none⟩))) a' (W.alloc (.cells z c.t)) (fun d => if d = c.d then W.heap.size else β d) := by
  have hcd := h.room c hc
  have h' := rel_world h (ka (k0 W) (.cells z c.t))
  have hji : ∀ x ∈ ls, c.i ≠ x.j := fun x hx => hok.ij c hc x hx
  have gj : ∀ x ∈ ls, (listed.setIfInBounds c.i true).getD x.j false = listed.getD x.j false := fun x hx => getD_set_ne false (hji x hx)
  have hfalse : listed.getD c.i false = false := by
    simp [Array.getD, hsz] at hun ⊢; exact hun
  have other : ∀ x ∈ ls, x.d ≠ c.d → c.i ≠ x.i := fun x hx hne => by
    rcases hok.inj c hc x hx with ⟨_, h2, _⟩ | ⟨_, _, h3, _⟩
    · exact h2
    · exact absurd h3.symm hne
  refine { defers := by rw [put_defers']; exact h.defers, size := by rw [put_size]; exact h.size, same := fun t ht => ?_, room := fun x hx => by rw [put_size]; exact h.room x hx, kept := h'.kept, first := fun x hx hl => ?_, slot := fun x hx hl => ?_, row := fun x hx hl => ?_, apart := fun x hx y hy h1 h2 h3 => ?_ }
  · rw [put_other a _ _ t (by simpa using ht c hc)]; exact h.same t ht
  · rw [gj x hx] at hl
    have := h.first x hx hl
    by_cases e : c.i = x.i
    · rw [← e] at this; rw [this] at hfalse; cases hfalse
    · rw [getD_set_ne false e]; exact this
  · by_cases e : x.d = c.d
    · rw [if_pos e, e]
      refine ⟨put_same a c.d _ hcd, h.kept.size, ?_⟩
      rw [canPut_alloc_at _ _ _ _ _ _ rfl]
      rcases hok.inj c hc x hx with ⟨h1, _⟩ | ⟨_, _, _, h4⟩
      · exact absurd e.symm h1
      · simp only [decide_eq_true_eq, Nat.zero_add]
        omega
    · rw [if_neg e]
      rw [getD_set_ne false (other x hx e)] at hl
      obtain ⟨h1, h2, h3⟩ := h'.slot x hx hl
      exact ⟨by rw [put_other a _ _ x.d (by simpa using Ne.symm e)]; exact h1, h2, h3⟩
  · rw [gj x hx] at hl
    have hi := h.first x hx hl
    by_cases e : x.d = c.d
    · exfalso
      rcases hok.inj c hc x hx with ⟨h1, _⟩ | ⟨h2, _⟩
      · exact h1 e.symm
      · rw [← h2] at hi; rw [hi] at hfalse; cases hfalse
    · rw [if_neg e]
      exact h'.row x hx hl
  · by_cases e1 : x.d = c.d
    · have e2 : y.d ≠ c.d := fun e => h3 (e1.trans e.symm)
      rw [if_pos e1, if_neg e2]
      rw [getD_set_ne false (other y hy e2)] at h2
      have := canPut_size (h.slot y hy h2).2.2
      omega
    · rw [if_neg e1]
      rw [getD_set_ne false (other x hx e1)] at h1
      by_cases e2 : y.d = c.d
      · rw [if_pos e2]
        have := canPut_size (h.slot x hx h1).2.2
        omega
      · rw [if_neg e2]
        rw [getD_set_ne false (other y hy e2)] at h2
        exact h.apart x hx y hy h1 h2 h3

theorem rel_store {listed : Array Bool} {a a' : Act} {W : World} {β : Nat → Nat} {c : Loc} (hok : LocSpec ls l.toArray) (hc : c ∈ ls) (h : Rel ls w listed a a' W β) (hi : listed.getD c.i false = true)
    (hL : c.L.length = c.k) (hLL : ∀ x ∈ ls, c.j = x.j → x.L = c.L) :
    Rel ls w (listed.setIfInBounds c.j true) a a' (putRow W (β c.d) 0 c.L) β := by
  have hij : ∀ x ∈ ls, c.j ≠ x.i := fun x hx => (hok.ij x hx c hc).symm
  have gi : ∀ x ∈ ls, (listed.setIfInBounds c.j true).getD x.i false = listed.getD x.i false := fun x hx => getD_set_ne false (hij x hx)
  have hp := (h.slot c hc hi).2.2
  have other : ∀ x ∈ ls, c.j ≠ x.j → x.d ≠ c.d := fun x hx hne => by
    rcases hok.inj c hc x hx with ⟨h1, _⟩ | ⟨_, h2, _⟩
    · exact fun e => h1 e.symm
    · exact absurd h2 hne
  refine { defers := h.defers, size := h.size, same := h.same, room := h.room, kept := kp h.kept (h.slot c hc hi).2.1 0 c.L, first := fun x hx hl => ?_, slot := fun x hx hl => ?_, row := fun x hx hl => ?_, apart := fun x hx y hy h1 h2 h3 => ?_ }
  · rw [gi x hx]
    by_cases e : c.j = x.j
    · rcases hok.inj c hc x hx with ⟨_, _, h3⟩ | ⟨h1, _⟩
      · exact absurd e h3
      · rw [← h1]; exact hi
    · rw [getD_set_ne false e] at hl; exact h.first x hx hl
  · rw [gi x hx] at hl
    obtain ⟨h1, h2, h3⟩ := h.slot x hx hl
    exact ⟨h1, h2, canPut_put c.L h3 (by rw [hL]; exact hp)⟩
  · by_cases e : c.j = x.j
    · rcases hok.inj c hc x hx with ⟨_, _, h3⟩ | ⟨_, _, h3, h4⟩
      · exact absurd e h3
      · rw [← h3, ← h4, hLL x hx e]; exact rowAt_put_same W _ 0 c.k c.L hL hp
    · rw [getD_set_ne false e] at hl
      have hx1 := h.first x hx hl
      have hne := h.apart x hx c hc hx1 hi (other x hx e)
      rw [rowAt_put_other _ _ _ _ _ _ _ hne]
      exact h.row x hx hl
  · rw [gi x hx] at h1; rw [gi y hy] at h2
    exact h.apart x hx y hy h1 h2 h3

theorem all_listed {ops : Array Oper} {listed : Array Bool} (hsz : listed.size = ops.size) (hback : ∀ (n : Nat) (o : Oper), ops[n]? = some o → ∀ e ∈ o.after, Region.binds .any e = true → e.on < n) (hr : Region.ready .any ops listed = []) :
    ∀ n, n < ops.size → listed.getD n false = true := by
  intro n
  induction n using Nat.strongRecOn with
  | _ n ih =>
    intro hn
    cases hv : listed.getD n true with
    | true =>
      simp [Array.getD, hsz, hn] at hv ⊢
      exact hv
    | false =>
      exfalso
      have : n ∈ Region.ready .any ops listed := by
        rw [mem_ready]
        exact ⟨hv, ops[n], Array.getElem?_eq_getElem hn, fun e he hb => by
          have := hback n _ (Array.getElem?_eq_getElem hn) e he hb
          exact ih e.on this (by omega)⟩
      rw [hr] at this
      cases this

/-- What the region has come to. -/
def Done (ls : List Loc) (w : World) (af a : Act) (W : World) : Prop :=
  ∃ β : Nat → Nat, a.defers = af.defers ∧ a.tmps.size = af.tmps.size ∧ (∀ t, (∀ c ∈ ls, c.d ≠ t) → a.tmps[t]? = af.tmps[t]?) ∧ Kept w W ∧
    (∀ c ∈ ls, a.tmps[c.d]? = some (.pointer (some ⟨β c.d, 0, none⟩)) ∧ w.heap.size ≤ β c.d ∧ canPut W (β c.d) 0 c.k = true ∧ rowAt W (β c.d) 0 c.k = some c.L) ∧
    (∀ c ∈ ls, ∀ c' ∈ ls, c.d ≠ c'.d → β c.d ≠ β c'.d)

theorem wanted_rel {ops' : Array Oper} {o : Oper} {a a' : Act} (hg : ∀ g want, o.guard = some (g, want) → (ops'[g]?).bind (·.dst) = (l.toArray[g]?).bind (·.dst))
    (hs : ∀ t ∈ o.looksAt l.toArray, a.tmps[t]? = a'.tmps[t]?) : Region.wanted o (yielded l.toArray a.tmps) = Region.wanted o (yielded ops' a'.tmps) := by
  unfold Region.wanted
  cases hgd : o.guard with
  | none => rfl
  | some gw =>
    obtain ⟨g, want⟩ := gw
    simp only
    have e : yielded l.toArray a.tmps g = yielded ops' a'.tmps g := by
      unfold yielded
      rw [hg g want hgd]
      cases hd : (l.toArray[g]?).bind (·.dst) with
      | none => rfl
      | some t =>
        have : t ∈ o.looksAt l.toArray := by
          unfold Oper.looksAt
          rw [hgd, List.mem_append]
          right
          simp only [hd, Option.toList_some, List.mem_singleton]
        simp only [Option.bind_some, hs t this]
    rw [e]

theorem sim_all (hsel : Region.noSelect l.toArray = true) (hok : LocSpec ls l.toArray) (his : ∀ n, is.elem n = true ↔ ∃ c ∈ ls, c.i = n ∨ c.j = n)
    (hz : ∀ c ∈ ls, ∃ z : Array Value, z.size = c.k ∧ ∀ W, (Instr.alloc c.t true (.tuple #[])).run P W = .ok (.pointer (some ⟨W.heap.size, 0, none⟩)) (W.alloc (.cells z c.t)))
    (hi : ∀ c ∈ ls, (P.info? c.t).map (·.size) = some c.k) (hL : ∀ c ∈ ls, rowOk c.L.toArray c.k = true ∧ af.tmps[c.s]? = some (.agg c.L.toArray)) (hLL : ∀ c ∈ ls, ∀ x ∈ ls, c.j = x.j → x.L = c.L)
    (hQ : ∀ a W, Done ls w af a W → Q .normal a W) :
    ∀ (fuel : Nat) (listed : Array Bool) (a a' : Act) (W : World) (β : Nat → Nat), listed.size = l.length → Rel ls w listed a a' W β → Quiets P .any (nopAt is 0 l).toArray w af fuel listed a' →
      wpAny P .any l.toArray Q fuel listed a W := by
  have fin : ∀ (listed : Array Bool) (a a' : Act) (W : World) (β : Nat → Nat), listed.size = l.length → Rel ls w listed a a' W β → a' = af → Region.ready .any l.toArray listed = [] → Q .normal a W := by
    intro listed a a' W β hsz h ha hr
    subst ha
    have hall := all_listed (ops := l.toArray) (by simpa using hsz) hok.back hr
    have li : ∀ c ∈ ls, listed.getD c.i false = true := fun c hc => by
      obtain ⟨o, ho, _⟩ := hok.alloc c hc
      exact hall _ (Array.getElem?_eq_some_iff.1 ho).1
    have lj : ∀ c ∈ ls, listed.getD c.j false = true := fun c hc => by
      obtain ⟨o, ho, _⟩ := hok.store c hc
      exact hall _ (Array.getElem?_eq_some_iff.1 ho).1
    exact hQ a W ⟨β, h.defers, h.size, h.same, h.kept, fun c hc => ⟨(h.slot c hc (li c hc)).1, (h.slot c hc (li c hc)).2.1, (h.slot c hc (li c hc)).2.2, h.row c hc (lj c hc)⟩, fun c hc c' hc' hd => h.apart c hc c' hc' (li c hc) (li c' hc') hd⟩
  have hdist : ∀ (k k' : Nat) (o o' : Oper) (t : Nat), (nopAt is 0 l).toArray[k]? = some o → (nopAt is 0 l).toArray[k']? = some o' → o.dst = some t → o'.dst = some t → k = k' := by
    intro k k' o o' t hk hk' hd hd'
    rw [nop_get] at hk hk'
    cases h1 : l.toArray[k]? with
    | none => rw [h1] at hk; cases hk
    | some x =>
      cases h2 : l.toArray[k']? with
      | none => rw [h2] at hk'; cases hk'
      | some y =>
        rw [h1] at hk; rw [h2] at hk'
        simp only [Option.map_some, Option.some.injEq] at hk hk'
        have e1 : x.dst = some t := by
          split at hk
          · subst hk; simp [nopOf] at hd
          · subst hk; exact hd
        have e2 : y.dst = some t := by
          split at hk'
          · subst hk'; simp [nopOf] at hd'
          · subst hk'; exact hd'
        exact hok.dist k k' x y t h1 h2 e1 e2
  intro fuel
  induction fuel with
  | zero =>
    intro listed a a' W β hsz h hG
    have hr : Region.ready .any l.toArray listed = [] := by rw [← ready_nop is]; exact (hG w (k0 w)).1
    exact ⟨hr, fin listed a a' W β hsz h (hG w (k0 w)).2 hr⟩
  | succ fuel ih =>
    intro listed a a' W β hsz h hG
    refine ⟨fun hr => fin listed a a' W β hsz h ((hG w (k0 w)).1 (by rw [ready_nop]; exact hr)) hr, fun n hn => ?_⟩
    obtain ⟨hun, o, ho, hdeps⟩ := mem_ready.1 hn
    have hn' : n ∈ Region.ready .any (nopAt is 0 l).toArray listed := by rw [ready_nop]; exact hn
    have hnl : n < listed.size := by rw [hsz]; simpa using (Array.getElem?_eq_some_iff.1 ho).1
    have hsz' : (listed.setIfInBounds n true).size = l.length := by simpa using hsz
    by_cases hin : is.elem n = true
    · -- the variable's own operations
      obtain ⟨c, hc, hcn⟩ := (his n).1 hin
      have ho' : (nopAt is 0 l).toArray[n]? = some (nopOf o) := by rw [nop_get, ho, Option.map_some, if_pos hin]
      have hq := quiets_step hdist hG hn' ho'
      have hwant : Region.wanted (nopOf o) (yielded (nopAt is 0 l).toArray a'.tmps) = true := rfl
      obtain ⟨v, _, hG'⟩ := hq.1 hwant w (k0 w)
      have hG'' : Quiets P .any (nopAt is 0 l).toArray w af fuel (listed.setIfInBounds n true) a' := hG'
      rcases hcn with rfl | rfl
      · obtain ⟨o2, ho2, hop, hdst, hgd⟩ := hok.alloc c hc
        rw [ho] at ho2
        simp only [Option.some.injEq] at ho2
        subst ho2
        obtain ⟨z, hzs, hzr⟩ := hz c hc
        unfold wpOp
        simp only [ho, Region.wanted, hgd, if_true]
        refine .inl ?_
        unfold Oper.wp execOp
        simp only [hop, Sem.run_bind, hzr W, Result.andThen_ok, Sem.run_pure, Oper.upon, hdst]
        exact ih _ _ _ _ _ hsz' (rel_alloc hok hc h hun hnl z hzs) hG''
      · obtain ⟨o2, ho2, hop, hdst, hgd, ⟨e, he, heb, heon⟩, hwr⟩ := hok.store c hc
        rw [ho] at ho2
        simp only [Option.some.injEq] at ho2
        subst ho2
        have hci : listed.getD c.i false = true := by rw [← heon]; exact hdeps e he heb
        obtain ⟨s1, s2, s3⟩ := h.slot c hc hci
        have hsrc : a.tmps[c.s]? = some (.agg c.L.toArray) := by
          rw [h.same c.s (fun x hx => hok.src c hc x hx), ← (hL c hc).2]
          refine final_slot _ _ _ (hG w (k0 w)) fun k o' hk hu hd => ?_
          rw [nop_get] at hk
          cases h1 : l.toArray[k]? with
          | none => rw [h1] at hk; cases hk
          | some x =>
            rw [h1] at hk
            simp only [Option.map_some, Option.some.injEq] at hk
            have e1 : x.dst = some c.s := by
              split at hk
              · subst hk; simp [nopOf] at hd
              · subst hk; exact hd
            obtain ⟨e2, he2, hb2, hon2⟩ := hwr k x h1 e1
            have := hdeps e2 he2 hb2
            rw [hon2] at this
            have hk2 : k < listed.size := by rw [hsz]; simpa using (Array.getElem?_eq_some_iff.1 h1).1
            simp [Array.getD, hk2] at this hu
            rw [this] at hu; cases hu
        have hok2 := (hL c hc).1
        unfold wpOp
        simp only [ho, Region.wanted, hgd, if_true]
        refine .inl ?_
        have hlen : c.L.length = c.k := by
          unfold rowOk at hok2
          simp only [Bool.and_eq_true, beq_iff_eq, List.size_toArray] at hok2
          exact hok2.1
        refine wp_store_mid c.t (.tmp c.d) (.tmp c.s) hop (β c.d) 0 c.L.toArray ?_ ?_ ?_ ?_ ?_ ?_
        · simp [Act.eval, s1]
        · simp [Act.eval, hsrc]
        · have := canPut_there s3; simpa [hlen] using this
        · rw [hi c hc]; simp [hlen]
        · unfold rowOk at hok2; simp only [Bool.and_eq_true] at hok2; exact hok2.2
        · rw [hdst]
          exact ih _ _ _ _ _ hsz' (rel_store hok hc h hci hlen (hLL c hc)) hG''
    · -- all others
      have hno : ∀ c ∈ ls, c.i ≠ n ∧ c.j ≠ n := fun c hc => ⟨fun e => hin ((his n).2 ⟨c, hc, .inl e⟩), fun e => hin ((his n).2 ⟨c, hc, .inr e⟩)⟩
      have ho' : (nopAt is 0 l).toArray[n]? = some o := by rw [nop_get, ho, Option.map_some, if_neg hin]
      have hq := quiets_step hdist hG hn' ho'
      have hoth := hok.other n o ho hno
      have hlook : ∀ t ∈ o.looksAt l.toArray, a.tmps[t]? = a'.tmps[t]? := fun t ht => h.same t (fun c hc e => (hoth c hc).1 (e ▸ ht))
      have hw : Region.wanted o (yielded l.toArray a.tmps) = Region.wanted o (yielded (nopAt is 0 l).toArray a'.tmps) := wanted_rel (fun g want hg => by
        rw [nop_get]
        cases hgo : l.toArray[g]? with
        | none => rfl
        | some x =>
          simp only [Option.map_some, Option.bind_some]
          split
          · rename_i hge
            obtain ⟨c, hc, hcg⟩ := (his g).1 hge
            rcases hcg with rfl | rfl
            · obtain ⟨x2, hx2, _, hxd, _⟩ := hok.alloc c hc
              rw [hgo] at hx2
              simp only [Option.some.injEq] at hx2
              subst hx2
              exfalso
              refine (hoth c hc).1 ?_
              unfold Oper.looksAt
              rw [hg, List.mem_append]
              right
              simp [hgo, hxd]
            · obtain ⟨x2, hx2, _, hxd, _⟩ := hok.store c hc
              rw [hgo] at hx2
              simp only [Option.some.injEq] at hx2
              subst hx2
              rw [hxd]; rfl
          · rfl) hlook
      unfold wpOp
      simp only [ho]
      split
      · rename_i hwt
        rw [hw] at hwt
        refine .inl ?_
        obtain ⟨v, hqa, hG'⟩ := hq.1 hwt W h.kept
        have hex : execOp a.eval o = execOp a'.eval o := execOp_congr o (fun cs b => Region.noSelect_spec hsel n o cs b ho) (fun x hx => by
          cases x with
          | tmp t =>
            have : t ∈ o.looksAt l.toArray := by
              unfold Oper.looksAt
              rw [List.mem_append]
              left
              rw [List.mem_filterMap]
              exact ⟨.tmp t, by simpa using hx, rfl⟩
            simp only [Act.eval, Array.getD_eq_getD_getElem?, hlook t this]
          | const v => rfl
          | global g => rfl
          | func f => rfl)
        unfold Oper.quietAt at hqa
        unfold Oper.wp
        rw [hex]
        generalize (execOp a'.eval o).run P W = r at *
        have hput : ∀ W1, Kept W W1 → wpAny P .any l.toArray Q fuel (listed.setIfInBounds n true) (a.put o.dst v) W1 := fun W1 hk =>
          ih _ _ _ _ _ hsz' (rel_put (rel_world h hk) hno o.dst (fun c hc => (hoth c hc).2) v) hG'
        cases r with
        | ok nx w1 =>
          cases nx <;> simp only [Oper.quietUpon] at hqa <;> simp only [Oper.upon]
          case value u =>
            obtain ⟨e1, e2⟩ := hqa
            rw [e1, e2]
            exact hput W (k0 W)
          case skip =>
            obtain ⟨e1, e2⟩ := hqa
            rw [e1, ← e2]
            exact hput W (k0 W)
          case enter f args =>
            obtain ⟨e1, hcall⟩ := hqa
            rw [e1]
            exact hcall.mono fun e w2 ⟨he, p, hp⟩ => by subst he; rw [hp]; exact hput _ (kept_later W p)
        | halt x w1 => simp only [Oper.quietUpon] at hqa
      · rename_i hwt
        rw [hw] at hwt
        exact ih _ _ _ _ _ hsz' (rel_put h hno o.dst (fun c hc => (hoth c hc).2) undef) (hq.2 (by simpa using hwt))

theorem wp_region_locals {id : Nat} {a : Act} (hm : P.follows .mixedOrders = true) (hsel : Region.noSelect l.toArray = true) (hck : locsOk ls l.toArray = true) (hB : Region.lexB .any (nopAt is 0 l).toArray = true)
    (his : ∀ n, is.elem n = true ↔ ∃ c ∈ ls, c.i = n ∨ c.j = n)
    (hz : ∀ c ∈ ls, ∃ z : Array Value, z.size = c.k ∧ ∀ W, (Instr.alloc c.t true (.tuple #[])).run P W = .ok (.pointer (some ⟨W.heap.size, 0, none⟩)) (W.alloc (.cells z c.t)))
    (hi : ∀ c ∈ ls, (P.info? c.t).map (·.size) = some c.k) (hroom : ∀ c ∈ ls, c.d < a.tmps.size)
    (h : ∀ V, Kept w V → wpQuiet P (nopAt is 0 l).toArray (fun W => ∃ p, W = later V p) (fun a' => a' = af) (nopAt is 0 l) a)
    (hL : ∀ c ∈ ls, rowOk c.L.toArray c.k = true ∧ af.tmps[c.s]? = some (.agg c.L.toArray)) (hLL : ∀ c ∈ ls, ∀ x ∈ ls, c.j = x.j → x.L = c.L)
    (hQ : ∀ a W, Done ls w af a W → Q .normal a W) : (Code.region id l.toArray true).wp P Q a w := by
  refine wp_region_any hm ?_
  have hG : Quiets P .any (nopAt is 0 l).toArray w af l.length (Array.replicate l.length false) a := by
    intro V hV
    simp only [Region.lexB, Bool.and_eq_true] at hB
    have := wpAnyQ_lex (P := P) (C := fun W => ∃ p, W = later V p) (md := .any) (Q := fun a' => a' = af) hB.1 (nopAt is 0 l) 0 (Array.replicate l.length false) a (by simp) (by simpa [nopAt_length] using hB.2) (h V hV)
    rwa [nopAt_length] at this
  have := sim_all (P := P) (l := l) (ls := ls) (w := w) (af := af) (Q := Q) (is := is) hsel (locsOk_spec hck) his hz hi hL hLL hQ l.length (Array.replicate l.length false) a a { w with drawn := w.drawn + 1 } (fun _ => 0) (by simp)
    { defers := rfl, size := rfl, same := fun _ _ => rfl, room := hroom, kept := kd (k0 w), first := fun c _ hl => absurd hl (by simp [Array.getD]), slot := fun c _ hl => absurd hl (by simp [Array.getD]), row := fun c _ hl => absurd hl (by simp [Array.getD]), apart := fun c _ c' _ hl => absurd hl (by simp [Array.getD]) } hG
  simpa using this

theorem done_put {c : Loc} {a : Act} {W : World} (h : Done [c] w af a W) (hroom : c.d < af.tmps.size) :
    ∃ b, a = af.put (some c.d) (.pointer (some ⟨b, 0, none⟩)) ∧ Kept w W ∧ w.heap.size ≤ b ∧ canPut W b 0 c.k = true ∧ rowAt W b 0 c.k = some c.L := by
  obtain ⟨β, h1, h2, h3, h4, h5, _⟩ := h
  obtain ⟨s1, s2, s3, s4⟩ := h5 c (by simp)
  refine ⟨β c.d, ?_, h4, s2, s3, s4⟩
  obtain ⟨at_, ad⟩ := a
  simp only at h1 h2 h3 s1
  have e : at_ = (af.put (some c.d) (.pointer (some ⟨β c.d, 0, none⟩))).tmps := by
    apply Array.ext_getElem?
    intro t
    by_cases ht : t = c.d
    · subst ht; rw [s1, put_same _ _ _ hroom]
    · rw [h3 t (fun x hx e => by simp at hx; subst hx; exact ht e.symm), put_other _ _ _ _ (fun e => ht (by simpa using e.symm))]
  rw [e, h1]
  rfl

theorem done_put2 {c c2 : Loc} {a : Act} {W : World} (h : Done [c, c2] w af a W) (hne : c.d ≠ c2.d) (hroom : c.d < af.tmps.size) (hroom2 : c2.d < af.tmps.size) :
    ∃ b b2, a = (af.put (some c.d) (.pointer (some ⟨b, 0, none⟩))).put (some c2.d) (.pointer (some ⟨b2, 0, none⟩)) ∧ Kept w W ∧ w.heap.size ≤ b ∧ w.heap.size ≤ b2 ∧ b ≠ b2 ∧ canPut W b 0 c.k = true ∧ rowAt W b 0 c.k = some c.L ∧ canPut W b2 0 c2.k = true ∧ rowAt W b2 0 c2.k = some c2.L := by
  obtain ⟨β, h1, h2, h3, h4, h5, h6⟩ := h
  obtain ⟨s1, s2, s3, s4⟩ := h5 c (by simp)
  obtain ⟨t1, t2, t3, t4⟩ := h5 c2 (by simp)
  refine ⟨β c.d, β c2.d, ?_, h4, s2, t2, h6 c (by simp) c2 (by simp) hne, s3, s4, t3, t4⟩
  obtain ⟨at_, ad⟩ := a
  simp only at h1 h2 h3 s1 t1
  have e : at_ = ((af.put (some c.d) (.pointer (some ⟨β c.d, 0, none⟩))).put (some c2.d) (.pointer (some ⟨β c2.d, 0, none⟩))).tmps := by
    apply Array.ext_getElem?
    intro t
    by_cases ht2 : t = c2.d
    · subst ht2; rw [t1, put_same _ _ _ (by rw [put_size]; exact hroom2)]
    · rw [put_other _ (some c2.d) _ _ (fun e => ht2 (by simpa using e.symm))]
      by_cases ht : t = c.d
      · subst ht; rw [s1, put_same _ _ _ hroom]
      · rw [h3 t (fun x hx e => by
          simp at hx
          rcases hx with rfl | rfl
          · exact ht e.symm
          · exact ht2 e.symm), put_other _ _ _ _ (fun e => ht (by simpa using e.symm))]
  rw [e, h1]
  rfl

/-- ONE VARIABLE. -/
theorem wp_region_one {id : Nat} {a : Act} (c : Loc) (hm : P.follows .mixedOrders = true) (hsel : Region.noSelect l.toArray = true) (hck : locsOk [c] l.toArray = true) (hB : Region.lexB .any (nopAt [c.i, c.j] 0 l).toArray = true)
    (z : Array Value) (hzs : z.size = c.k) (hz : ∀ W, (Instr.alloc c.t true (.tuple #[])).run P W = .ok (.pointer (some ⟨W.heap.size, 0, none⟩)) (W.alloc (.cells z c.t)))
    (hi : (P.info? c.t).map (·.size) = some c.k) (hroom : c.d < a.tmps.size) (hroom' : c.d < af.tmps.size)
    (h : ∀ V, Kept w V → wpQuiet P (nopAt [c.i, c.j] 0 l).toArray (fun W => ∃ p, W = later V p) (fun a' => a' = af) (nopAt [c.i, c.j] 0 l) a)
    (hL : rowOk c.L.toArray c.k = true) (hL' : af.tmps[c.s]? = some (.agg c.L.toArray))
    (hQ : ∀ b W, Kept w W → w.heap.size ≤ b → canPut W b 0 c.k = true → rowAt W b 0 c.k = some c.L → Q .normal (af.put (some c.d) (.pointer (some ⟨b, 0, none⟩))) W) : (Code.region id l.toArray true).wp P Q a w := by
  refine wp_region_locals (ls := [c]) (is := [c.i, c.j]) (af := af) hm hsel hck hB ?_ ?_ ?_ ?_ h ?_ ?_ fun a W hd => ?_
  · intro n
    simp only [List.elem_eq_mem, List.mem_cons, List.not_mem_nil, or_false, decide_eq_true_eq, exists_eq_left]
    exact ⟨fun h => h.imp Eq.symm Eq.symm, fun h => h.imp Eq.symm Eq.symm⟩
  · intro x hx; simp at hx; subst hx; exact ⟨z, hzs, hz⟩
  · intro x hx; simp at hx; subst hx; exact hi
  · intro x hx; simp at hx; subst hx; exact hroom
  · intro x hx; simp at hx; subst hx; exact ⟨hL, hL'⟩
  · intro x hx y hy _; simp at hx hy; subst hx hy; rfl
  · obtain ⟨b, rfl, k1, k2, k3, k4⟩ := done_put hd hroom'
    exact hQ b W k1 k2 k3 k4

/-- TWO VARIABLES. -/
theorem wp_region_two {id : Nat} {a : Act} (c c2 : Loc) (hm : P.follows .mixedOrders = true) (hsel : Region.noSelect l.toArray = true) (hck : locsOk [c, c2] l.toArray = true) (hB : Region.lexB .any (nopAt [c.i, c.j, c2.i, c2.j] 0 l).toArray = true)
    (z : Array Value) (hzs : z.size = c.k) (hz : ∀ W, (Instr.alloc c.t true (.tuple #[])).run P W = .ok (.pointer (some ⟨W.heap.size, 0, none⟩)) (W.alloc (.cells z c.t)))
    (z2 : Array Value) (hzs2 : z2.size = c2.k) (hz2 : ∀ W, (Instr.alloc c2.t true (.tuple #[])).run P W = .ok (.pointer (some ⟨W.heap.size, 0, none⟩)) (W.alloc (.cells z2 c2.t)))
    (hi : (P.info? c.t).map (·.size) = some c.k) (hi2 : (P.info? c2.t).map (·.size) = some c2.k) (hne : c.d ≠ c2.d) (hnj : c.j ≠ c2.j) (hroom : c.d < a.tmps.size) (hroom2 : c2.d < a.tmps.size) (hroom' : c.d < af.tmps.size) (hroom2' : c2.d < af.tmps.size)
    (h : ∀ V, Kept w V → wpQuiet P (nopAt [c.i, c.j, c2.i, c2.j] 0 l).toArray (fun W => ∃ p, W = later V p) (fun a' => a' = af) (nopAt [c.i, c.j, c2.i, c2.j] 0 l) a)
    (hL : rowOk c.L.toArray c.k = true) (hL' : af.tmps[c.s]? = some (.agg c.L.toArray)) (hL2 : rowOk c2.L.toArray c2.k = true) (hL2' : af.tmps[c2.s]? = some (.agg c2.L.toArray))
    (hQ : ∀ b b2 W, Kept w W → w.heap.size ≤ b → w.heap.size ≤ b2 → b ≠ b2 → canPut W b 0 c.k = true → rowAt W b 0 c.k = some c.L → canPut W b2 0 c2.k = true → rowAt W b2 0 c2.k = some c2.L →
      Q .normal ((af.put (some c.d) (.pointer (some ⟨b, 0, none⟩))).put (some c2.d) (.pointer (some ⟨b2, 0, none⟩))) W) : (Code.region id l.toArray true).wp P Q a w := by
  refine wp_region_locals (ls := [c, c2]) (is := [c.i, c.j, c2.i, c2.j]) (af := af) hm hsel hck hB ?_ ?_ ?_ ?_ h ?_ ?_ fun a W hd => ?_
  · intro n
    simp only [List.elem_eq_mem, List.mem_cons, List.not_mem_nil, or_false, decide_eq_true_eq]
    constructor
    · rintro (rfl | rfl | rfl | rfl)
      · exact ⟨c, .inl rfl, .inl rfl⟩
      · exact ⟨c, .inl rfl, .inr rfl⟩
      · exact ⟨c2, .inr rfl, .inl rfl⟩
      · exact ⟨c2, .inr rfl, .inr rfl⟩
    · rintro ⟨x, rfl | rfl, rfl | rfl⟩ <;> simp
  · intro x hx; simp at hx; rcases hx with rfl | rfl
    · exact ⟨z, hzs, hz⟩
    · exact ⟨z2, hzs2, hz2⟩
  · intro x hx; simp at hx; rcases hx with rfl | rfl
    · exact hi
    · exact hi2
  · intro x hx; simp at hx; rcases hx with rfl | rfl
    · exact hroom
    · exact hroom2
  · intro x hx; simp at hx; rcases hx with rfl | rfl
    · exact ⟨hL, hL'⟩
    · exact ⟨hL2, hL2'⟩
  · intro x hx y hy e; simp at hx hy
    rcases hx with rfl | rfl <;> rcases hy with rfl | rfl
    · rfl
    · exact absurd e hnj
    · exact absurd e.symm hnj
    · rfl
  · obtain ⟨b, b2, rfl, k1, k2, k3, k4, k5, k6, k7, k8⟩ := done_put2 hd hne hroom' hroom2'
    exact hQ b b2 W k1 k2 k3 k4 k5 k6 k7 k8

end sim
end
end Go.Proofs.Ytaifnopoojbcfaa
