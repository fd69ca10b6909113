/- Rows of elements of one cell (bytes, numbers, slices) in memory: slices that are read, slices of the call's own, append. -/
import Derived.Test.YtaifnopoojbcfaaKit
import Derived.Test.YtaifnopoojbcfaaCmp
import Derived.Test.YtaifnopoojbcfaaVPlain
import Derived.Laws.AppendOwn
import Derived.Laws.AppendOwnNone
import Derived.OwnWalk
namespace Go.Proofs.Ytaifnopoojbcfaa
open Go.RowKit
open BigFrame

/-- The cell of a byte; of a number of 64 bits. -/
def bC (c : UInt8) : Value := .int .u8 (c.toNat : Nat)
def nC (n : Nat) : Value := .int .u64 (n : Nat)
def bL (l : List UInt8) : List Value := l.map bC
def nL (l : List Nat) : List Value := l.map nC
@[simp] theorem bL_length (l : List UInt8) : (bL l).length = l.length := by simp [bL]
@[simp] theorem nL_length (l : List Nat) : (nL l).length = l.length := by simp [nL]
theorem bL_append (l m : List UInt8) : bL (l ++ m) = bL l ++ bL m := by simp [bL]
theorem bL_get (l : List UInt8) (i : Nat) (h : i < l.length) : (bL l)[i]? = some (.int .u8 (l[i].toNat : Nat)) := by simp [bL, h, bC]
theorem nL_get (l : List Nat) (i : Nat) (h : i < l.length) : (nL l)[i]? = some (.int .u64 (l[i] : Nat)) := by simp [nL, h, nC]
theorem bL_one (l : List UInt8) : ∀ u ∈ bL l, u.oneCell' = true := by
  intro u hu; obtain ⟨c, _, rfl⟩ := List.mem_map.1 hu; rfl
theorem nL_one (l : List Nat) : ∀ u ∈ nL l, u.oneCell' = true := by
  intro u hu; obtain ⟨c, _, rfl⟩ := List.mem_map.1 hu; rfl

/-- A slice value whose elements, of one cell each, are xs. -/
def ElV (w : World) (v : Value) (xs : List Value) : Prop :=
  (∃ ao cap, v = .slice ao 0 cap ∧ (ao = none → cap = 0) ∧ xs = []) ∨
  ∃ b off cap, v = .slice (some ⟨b, off, none⟩) xs.length cap ∧ xs.length ≤ cap ∧ ∀ j u, xs[j]? = some u → w.cell? ⟨b, off + j, none⟩ = some u
theorem elV_nil (w : World) : ElV w (.slice none 0 0) [] := .inl ⟨none, 0, rfl, fun _ => rfl, rfl⟩
theorem elV_kept {w w' : World} (hk : Kept w w') {v : Value} {xs : List Value} (h : ElV w v xs) : ElV w' v xs := by
  rcases h with h | ⟨b, off, cap, h1, h2, h3⟩
  · exact .inl h
  · exact .inr ⟨b, off, cap, h1, h2, fun j u hu => by
      have := h3 j u hu
      rw [hk.cell (p := ⟨b, off + j, none⟩) (block_lt_of_cell this)]; exact this⟩
theorem elV_cell {w : World} {b off cap n : Nat} {xs : List Value} (h : ElV w (.slice (some ⟨b, off, none⟩) n cap) xs) (j : Nat) (hj : j < xs.length) : w.cell? ⟨b, off + j, none⟩ = xs[j]? := by
  rcases h with ⟨ao, c, h1, _, rfl⟩ | ⟨b', off', cap', h1, _, h3⟩
  · simp at hj
  · simp only [Value.slice.injEq, Option.some.injEq, Addr.mk.injEq] at h1
    obtain ⟨⟨rfl, rfl, _⟩, _, _⟩ := h1
    rw [List.getElem?_eq_getElem hj]
    exact h3 j _ (List.getElem?_eq_getElem hj)
/-- The address of what has elements. -/
theorem elV_at {w : World} {v : Value} {xs : List Value} (h : ElV w v xs) (hx : xs ≠ []) : ∃ b off cap, v = .slice (some ⟨b, off, none⟩) xs.length cap ∧ xs.length ≤ cap ∧ ∀ j, j < xs.length → w.cell? ⟨b, off + j, none⟩ = xs[j]? := by
  rcases h with ⟨_, _, _, _, rfl⟩ | ⟨b, off, cap, h1, h2, h3⟩
  · exact absurd rfl hx
  · exact ⟨b, off, cap, h1, h2, fun j hj => by rw [List.getElem?_eq_getElem hj]; exact h3 j _ (List.getElem?_eq_getElem hj)⟩
theorem elV_form {w : World} {v : Value} {xs : List Value} (h : ElV w v xs) : ∃ ao cap, v = .slice ao xs.length cap ∧ xs.length ≤ cap ∧ (ao = none → cap = 0) := by
  rcases h with ⟨ao, cap, rfl, h2, rfl⟩ | ⟨b, off, cap, rfl, h2, _⟩
  · exact ⟨ao, cap, rfl, by simp, h2⟩
  · exact ⟨some ⟨b, off, none⟩, cap, rfl, h2, by simp⟩
/-- A part of a slice. -/
theorem elV_sub {w : World} {b off cap n : Nat} {xs : List Value} (h : ElV w (.slice (some ⟨b, off, none⟩) n cap) xs) (i k c : Nat) (hk : i + k ≤ xs.length) (hc : k ≤ c) : ElV w (.slice (some ⟨b, off + i, none⟩) k c) ((xs.drop i).take k) := by
  have hl : ((xs.drop i).take k).length = k := by simp; omega
  refine .inr ⟨b, off + i, c, by rw [hl], by rw [hl]; exact hc, fun j u hu => ?_⟩
  have hj : j < k := by rw [← hl]; exact (List.getElem?_eq_some_iff.1 hu).1
  rw [List.getElem?_take_of_lt hj, List.getElem?_drop] at hu
  rw [Nat.add_assoc, elV_cell h (i + j) (by omega), hu]
/-- Cells of a block as a slice. -/
theorem elV_row {w : World} {b o k c : Nat} {xs : List Value} (h : rowAt w b o k = some xs) (hc : k ≤ c) : ElV w (.slice (some ⟨b, o, none⟩) k c) xs := by
  obtain ⟨h1, h2⟩ := rowAt_range h
  exact .inr ⟨b, o, c, by rw [h2], by omega, fun j u hu => h1 j u hu⟩
theorem rowAt_sub {w : World} {b o k : Nat} {xs : List Value} (h : rowAt w b o k = some xs) (i m : Nat) (hm : i + m ≤ k) : rowAt w b (o + i) m = some ((xs.drop i).take m) := by
  unfold rowAt at h ⊢
  split at h
  · rename_i c t fr hg
    split at h
    · rename_i hk
      simp only [Option.some.injEq] at h
      subst h
      rw [if_pos (by omega), List.drop_take, List.drop_drop, List.take_take, Nat.min_eq_left (by omega)]
    · cases h
  · cases h

/-- A slice value that is nil or begins a row of the call's own, a block from base on. -/
abbrev OwV (w : World) (base : Nat) (t : TypeId) (v : Value) (xs : List Value) : Prop := w.ownsRow base t 1 v xs.length xs
theorem owV_nil (w : World) (base : Nat) (t : TypeId) : OwV w base t (.slice none 0 0) [] := World.ownsRow_nil w base t 1
theorem owV_kept {w w' : World} (hk : Kept w w') {base : Nat} {t : TypeId} {v : Value} {xs : List Value} (h : OwV w base t v xs) : OwV w' base t v xs :=
  h.kept (row := none) ⟨hk.os, hk.tape, hk.output, hk.size, fun k hkk _ => hk.block k hkk⟩ (by cases hv : v.ownBlock <;> simp)
theorem owV_elV {w : World} {base : Nat} {t : TypeId} {v : Value} {xs : List Value} (h : OwV w base t v xs) : ElV w v xs := by
  rcases h.2 with ⟨rfl, h0⟩ | ⟨g, cap, cur, rfl, hb, hgg, h3, h4, h5, h6⟩
  · obtain rfl := List.eq_nil_of_length_eq_zero h0
    exact elV_nil w
  · refine .inr ⟨g, 0, cap, rfl, h3, fun j u hu => ?_⟩
    have := h.cells (g := g) rfl j u hu
    rwa [Addr.add_lit] at this
theorem owV_mono {w : World} {base base' : Nat} {t : TypeId} {v : Value} {xs : List Value} (h : OwV w base t v xs) (hb : base' ≤ base) : OwV w base' t v xs := by
  obtain ⟨h1, h2 | ⟨g, cap, cur, e, hg, r⟩⟩ := h
  · exact ⟨h1, .inl h2⟩
  · exact ⟨h1, .inr ⟨g, cap, cur, e, Nat.le_trans hb hg, r⟩⟩
theorem owV_made (w : World) (xs : List Value) (t : TypeId) (n : Nat) (hn : n = xs.length) (hm : xs.length ≤ maxLen) : OwV (w.alloc (.cells xs.toArray t)) w.heap.size t (.slice (some ⟨w.heap.size, 0, none⟩) n n) xs := by
  subst hn
  exact ⟨by simp, .inr ⟨w.heap.size, xs.length, xs.toArray, rfl, Nat.le_refl _, heap_alloc_new w _, Nat.le_refl _, hm, by simp, by simp⟩⟩
theorem owV_made_at {w : World} {base : Nat} (xs : List Value) (t : TypeId) (n : Nat) (hn : n = xs.length) (hm : xs.length ≤ maxLen) (hb : base ≤ w.heap.size) : OwV (w.alloc (.cells xs.toArray t)) base t (.slice (some ⟨w.heap.size, 0, none⟩) n n) xs :=
  owV_mono (owV_made w xs t n hn hm) hb
theorem elV_made1 (w : World) (x : Value) (t : TypeId) : ElV (w.alloc (.cells #[x] t)) (.slice (some ⟨w.heap.size, 0, none⟩) 1 1) [x] := owV_elV (owV_made w [x] t 1 rfl (by unfold maxLen; simp))
theorem elV_made_at {w : World} {g : Nat} (x : Value) (t : TypeId) (hg : g = w.heap.size) : ElV (w.alloc (.cells #[x] t)) (.slice (some ⟨g, 0, none⟩) 1 1) [x] := by subst hg; exact elV_made1 w x t
theorem bL_one_of {k : Nat} (h : k < 256) : bL [UInt8.ofNat k] = [.int .u8 (k : Nat)] := by
  simp [bL, bC, Nat.mod_eq_of_lt h]
theorem bL_one_mod (k : Nat) : bL [UInt8.ofNat k] = [.int .u8 (k % 256 : Nat)] := by
  simp [bL, bC]
/-- Old memory stays where a row of the call's own grows. -/
theorem kept_grown {w0 w w' : World} {base : Nat} {t : TypeId} {v : Value} {xs : List Value} (hk : Kept w0 w) (hb : w0.heap.size ≤ base) (h : OwV w base t v xs) (hg : w.grownBy w' v.ownBlock) : Kept w0 w' :=
  hk.grown hg hk.size fun k hkk => Nat.le_trans hb (h.lt k hkk).1

section
variable {P : Program} {t e : TypeId} {z : Value} {bytes : Nat}
theorem wpList_appG (ht : P.underlying t = some (.slice e)) (hinfo : (P.info? e).map (fun i => (i.zero, i.size, i.bytes)) = some (some z, 1, bytes)) (hz : z.cells.size = 1)
    {w : World} {ops : Array Oper} {rest : List Oper} {o : Oper} {a : Act} {Q : Exit → Act → World → Prop} (hgd : o.guard = none) (s x : Operand)
    (ho : o.op = .call { callee := .builtin .append, args := #[s, x], argTypes := #[t, t] })
    (base : Nat) (v src : Value) (xs ys : List Value) (hs : a.eval s = v) (hx : a.eval x = src) (hown : OwV w base e v xs) (hsrc : ElV w src ys) (h1 : ∀ u ∈ ys, u.oneCell' = true)
    (hm : xs.length + ys.length ≤ maxLen) (hby : (xs.length + ys.length) * bytes ≤ 140737488355328) (hbase : base ≤ w.heap.size)
    (h : ∀ v' w', OwV w' base e v' (xs ++ ys) → w.grownBy w' v.ownBlock → wpList P ops Q rest (a.put o.dst v') w') : wpList P ops Q (o :: rest) a w := by
  obtain ⟨i0, hi, hz0, hz1, hz2⟩ := info_parts hinfo
  rcases hsrc with ⟨ao, cap, rfl, hao, rfl⟩ | ⟨b, off, cap, rfl, hlc, hr⟩
  · cases ao with
    | some ad =>
      refine wpList_append_own _ hgd s x _ ho base e i0 _ 1 bytes ht hi hz0 hz1 hz2 hz (by decide) v xs.length xs hs hown ad 0 cap [] hx rfl (by intro j u hu; simp at hu) (by intro u hu; cases hu) (by simpa using hm) (by simpa using hby) hbase ?_
      intro v' w' hown' hg _
      exact h v' w' (by simpa [OwV] using hown') hg
    | none =>
    obtain rfl := hao rfl
    refine wpList_append_own_none hgd s x _ ho base e i0 1 ht hi v xs.length xs hs hown hx ?_
    exact h v w (by simpa [OwV] using hown) (World.grownBy.refl _ _)
  · refine wpList_append_own _ hgd s x _ ho base e i0 _ 1 bytes ht hi hz0 hz1 hz2 hz (by decide) v xs.length xs hs hown ⟨b, off, none⟩ ys.length cap ys hx (by simp) (by intro j u hu; rw [Addr.add_lit]; exact hr j u hu) h1 hm hby hbase ?_
    intro v' w' hown' hg _
    exact h v' w' (by simpa [OwV, List.length_append] using hown') hg
theorem wpList_appE (ht : P.underlying t = some (.slice e)) (hinfo : (P.info? e).map (fun i => (i.zero, i.size, i.bytes)) = some (some z, 1, bytes)) (hz : z.cells.size = 1)
    {w : World} {ops : Array Oper} {rest : List Oper} {o : Oper} {a : Act} {Q : Exit → Act → World → Prop} (hgd : o.guard = none) (s x : Operand)
    (ho : o.op = .call { callee := .builtin .append, args := #[s, x], argTypes := #[t, t] })
    (base : Nat) (v src : Value) (xs ys : List Value) (hs : a.eval s = v) (hx : a.eval x = src) (hown : OwV w base e v xs) (hsrc : ElV w src ys) (h1 : ∀ u ∈ ys, u.oneCell' = true)
    (hm : xs.length + ys.length ≤ maxLen) (hby : (xs.length + ys.length) * bytes ≤ 140737488355328) (hbase : base ≤ w.heap.size)
    (h : ∀ v' w', OwV w' base e v' (xs ++ ys) → (∀ w0, Kept w0 w → w0.heap.size ≤ base → Kept w0 w') → wpList P ops Q rest (a.put o.dst v') w') : wpList P ops Q (o :: rest) a w :=
  wpList_appG ht hinfo hz hgd s x ho base v src xs ys hs hx hown hsrc h1 hm hby hbase fun v' w' h2 hg => h v' w' h2 fun _ hk hb => kept_grown hk hb hown hg
theorem owV_form {w : World} {base : Nat} {t : TypeId} {v : Value} {xs : List Value} (h : OwV w base t v xs) (hx : 0 < xs.length) : ∃ g cap, v = .slice (some ⟨g, 0, none⟩) xs.length cap ∧ xs.length ≤ cap ∧ cap ≤ maxLen ∧ base ≤ g := by
  rcases h.2 with ⟨_, h0⟩ | ⟨g, cap, cur, rfl, hb, _, h3, h4, _⟩
  · omega
  · exact ⟨g, cap, rfl, h3, h4, hb⟩
/-- Rows of two types are two blocks. -/
theorem own_ne {w : World} {b1 b2 : Nat} {t1 t2 : TypeId} {v1 v2 : Value} {x1 x2 : List Value} (h1 : OwV w b1 t1 v1 x1) (h2 : OwV w b2 t2 v2 x2) (ht : t1 ≠ t2) : v1.ownBlock = none ∨ v1.ownBlock ≠ v2.ownBlock := by
  rcases h1.2 with ⟨rfl, _⟩ | ⟨g, cap, cur, rfl, _, hg, _⟩
  · exact .inl rfl
  · right
    rcases h2.2 with ⟨rfl, _⟩ | ⟨g', cap', cur', rfl, _, hg', _⟩
    · simp [Value.ownBlock]
    · intro e
      simp only [Value.ownBlock, Option.some.injEq] at e
      subst e
      rw [hg] at hg'
      simp only [Option.some.injEq, Obj.cells.injEq] at hg'
      exact ht hg'.2.1
end
end Go.Proofs.Ytaifnopoojbcfaa
