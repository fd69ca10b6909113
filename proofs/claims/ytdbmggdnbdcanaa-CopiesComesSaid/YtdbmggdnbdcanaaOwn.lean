/- Arrays of identities that the call itself made; append on them. -/
import Derived.Test.YtdbmggdnbdcanaaIds
import Derived.Laws.AppendOwn
import Derived.Laws.AppendOwnNone
import Derived.OwnWalk
namespace Go.Proofs.Ytdbmggdnbdcanaa
open Go.RowKit
open BigFrame

theorem fold_zip : ∀ (L : List Value) (z : Array Value) (k : Nat), k + L.length ≤ z.size →
    ((L.zipIdx k).foldl (fun cs x => cs.setIfInBounds x.snd x.fst) z).toList = z.toList.take k ++ L ++ z.toList.drop (k + L.length)
  | [], z, k, _ => by simp
  | v :: r, z, k, h => by
    rw [List.zipIdx_cons, List.foldl_cons, fold_zip r _ (k + 1) (by simp at h ⊢; omega)]
    have hk : k < z.toList.length := by simp at h ⊢; omega
    simp only [Array.toList_setIfInBounds, List.length_cons]
    rw [List.drop_set_of_lt (by omega), show k + 1 + r.length = k + (r.length + 1) by omega, List.take_set, List.take_succ_eq_append_getElem hk]
    have e : (List.take k z.toList).length = k := by rw [List.length_take]; omega
    rw [List.set_append, if_neg (by omega), e, Nat.sub_self]
    simp
@[go_sem] theorem fold_idL (x : Id) (z : Array Value) (hz : z.size = 16) : (idL x).zipIdx.foldl (fun cs x => cs.setIfInBounds x.snd x.fst) z = (idL x).toArray := by
  apply Array.toList_inj.1
  rw [fold_zip (idL x) z 0 (by rw [idL_length]; omega), idL_length, List.drop_of_length_le (by rw [Array.length_toList]; omega)]
  simp

def flat (l : List Id) : List Value := l.flatMap idL
theorem flat_cons (x : Id) (l : List Id) : flat (x :: l) = idL x ++ flat l := rfl
theorem flat_append (l m : List Id) : flat (l ++ m) = flat l ++ flat m := List.flatMap_append ..
theorem flat_length (l : List Id) : (flat l).length = l.length * 16 := by
  induction l with
  | nil => rfl
  | cons x l ih => rw [flat_cons, List.length_append, ih, idL_length, List.length_cons]; omega
theorem flat_take (l : List Id) (n : Nat) : (flat l).take (n * 16) = flat (l.take n) := by
  by_cases hn : n ≤ l.length
  · have h : flat l = flat (l.take n) ++ flat (l.drop n) := by rw [← flat_append, List.take_append_drop]
    have h2 : (flat (l.take n)).length = n * 16 := by rw [flat_length, List.length_take]; omega
    rw [h, ← h2, List.take_left']
    rfl
  · rw [List.take_of_length_le (by rw [flat_length]; omega), List.take_of_length_le (by omega)]
theorem flat_drop (l : List Id) (n : Nat) : (flat l).drop (n * 16) = flat (l.drop n) := by
  by_cases hn : n ≤ l.length
  · have h : flat l = flat (l.take n) ++ flat (l.drop n) := by rw [← flat_append, List.take_append_drop]
    have h2 : (flat (l.take n)).length = n * 16 := by rw [flat_length, List.length_take]; omega
    rw [h, ← h2, List.drop_left']
    rfl
  · rw [List.drop_of_length_le (by rw [flat_length]; omega), List.drop_of_length_le (by omega)]; rfl
theorem flat_row (l : List Id) (i : Nat) (hi : i < l.length) : ((flat l).drop (i * 16)).take 16 = idL (l.getD i 0) := by
  rw [flat_drop, List.drop_eq_getElem_cons hi, flat_cons, List.take_left' (idL_length _)]
  simp [List.getD, hi]
theorem flat_one (l : List Id) : ∀ u ∈ flat l, u.oneCell' = true := by
  intro u hu
  obtain ⟨x, _, hx⟩ := List.mem_flatMap.1 hu
  have := rowOk_id x
  unfold rowOk at this
  simp only [Bool.and_eq_true, Array.all_eq_true_iff_forall_mem] at this
  exact this.2 u (by simpa using hx)

/-- Block g is an array of cap identities, unfrozen, the first of which are l. -/
def Own (w : World) (g cap : Nat) (l : List Id) : Prop :=
  ∃ cur, w.heap[g]? = some (.cells cur 23 (0, 0)) ∧ cur.size = cap * 16 ∧ l.length ≤ cap ∧ cap ≤ maxLen ∧ cur.toList.take (l.length * 16) = flat l
/-- A slice value that is nil or begins such an array, a block from base on. -/
def OwnV (w : World) (base : Nat) (v : Value) (l : List Id) : Prop := (v = .slice none 0 0 ∧ l = []) ∨ ∃ g cap, v = .slice (some ⟨g, 0, none⟩) l.length cap ∧ base ≤ g ∧ Own w g cap l

theorem own_same {w w' : World} {g cap : Nat} {l : List Id} (h : Own w g cap l) (hs : w'.heap[g]? = w.heap[g]?) : Own w' g cap l := by
  obtain ⟨cur, h1, h2⟩ := h
  exact ⟨cur, by rw [hs, h1], h2⟩
theorem own_lt {w : World} {g cap : Nat} {l : List Id} (h : Own w g cap l) : g < w.heap.size := by
  obtain ⟨cur, h1, _⟩ := h
  exact (Array.getElem?_eq_some_iff.1 h1).1
theorem own_ids {w : World} {g cap : Nat} {l : List Id} (h : Own w g cap l) : IdsAt w g 0 l := by
  obtain ⟨cur, h1, h2, h3, _, h5⟩ := h
  intro i hi
  unfold rowAt
  rw [h1]
  simp only [Nat.zero_add]
  rw [if_pos (by omega), ← flat_row l i hi, ← h5, List.drop_take, List.take_take]
  congr 2
  omega
theorem own_row {w : World} {g cap : Nat} {l : List Id} (h : Own w g cap l) {i : Nat} (hi : i < l.length) : rowAt w g (i * 16) 16 = some (idL (l.getD i 0)) := by
  have := own_ids h i hi
  rwa [Nat.zero_add] at this
theorem own_drop {w : World} {g cap : Nat} {l : List Id} (h : Own w g cap l) (a : Nat) : IdsAt w g (a * 16) (l.drop a) := by
  intro i hi
  rw [List.length_drop] at hi
  have := own_row h (i := a + i) (by omega)
  rw [show a * 16 + i * 16 = (a + i) * 16 by omega, this]
  simp [List.getD]
theorem own_put {w : World} {g cap : Nat} {l : List Id} (h : Own w g cap l) {i : Nat} (hi : i < cap) : canPut w g (i * 16) 16 = true := by
  obtain ⟨cur, h1, h2, _⟩ := h
  unfold canPut
  rw [h1]
  simp
  omega
theorem own_take {w : World} {g cap : Nat} {l : List Id} (h : Own w g cap l) (n : Nat) : Own w g cap (l.take n) := by
  obtain ⟨cur, h1, h2, h3, h4, h5⟩ := h
  refine ⟨cur, h1, h2, by simp; omega, h4, ?_⟩
  rw [List.length_take, ← flat_take]
  have e : min n l.length * 16 = min (n * 16) (l.length * 16) := by omega
  rw [e, ← List.take_take, h5]
theorem own_cap {w : World} {g cap : Nat} {l : List Id} (h : Own w g cap l) : l.length ≤ cap ∧ cap ≤ maxLen := by
  obtain ⟨cur, _, _, h3, h4, _⟩ := h
  exact ⟨h3, h4⟩
theorem take_mid {α : Type} {F A L B : List α} {p n k : Nat} (hp : F.take p = A) (hB : (F.drop (p + k)).take (n - (p + k)) = B) (hL : L.length = k) (hn : p + k ≤ n) (hF : p ≤ F.length) :
    (F.take p ++ L ++ F.drop (p + k)).take n = A ++ (L ++ B) := by
  have hA : A.length = p := by rw [← hp, List.length_take]; omega
  rw [hp, List.append_assoc, List.take_append, hA, List.take_append, hL, List.take_of_length_le (by omega : A.length ≤ n), List.take_of_length_le (by omega : L.length ≤ n - p), show n - p - k = n - (p + k) by omega, hB]
theorem own_set {w : World} {g cap : Nat} {l : List Id} (h : Own w g cap l) {i : Nat} (hi : i < l.length) (x : Id) : Own (putRow w g (i * 16) (idL x)) g cap (l.set i x) := by
  obtain ⟨cur, h1, h2, h3, h4, h5⟩ := h
  have hf : flat (l.set i x) = flat (l.take i) ++ (idL x ++ flat (l.drop (i + 1))) := by
    rw [List.set_eq_take_append_cons_drop, if_pos hi, flat_append, flat_cons]
  have hL := idL_length x
  rw [Own, hf]
  generalize idL x = L at hL
  obtain ⟨c', g1, g2, g3⟩ := heap_putRow_same (L := L) h1 (o := i * 16) (by rw [hL]; omega)
  refine ⟨c', g1, by rw [g2, h2], by simpa using h3, h4, ?_⟩
  have e1 : cur.toList.take (i * 16) = flat (l.take i) := by
    rw [← flat_take, ← h5, List.take_take, show min (i * 16) (l.length * 16) = i * 16 by omega]
  have e2 : (cur.toList.drop (i * 16 + 16)).take (l.length * 16 - (i * 16 + 16)) = flat (l.drop (i + 1)) := by
    rw [← flat_drop, ← h5, List.drop_take, show (i + 1) * 16 = i * 16 + 16 by omega]
  rw [List.length_set, g3, hL]
  exact take_mid e1 e2 hL (by omega) (by rw [Array.length_toList]; omega)
theorem ownV_ids {w : World} {base : Nat} {v : Value} {l : List Id} (h : OwnV w base v l) : IdsV w v l := by
  rcases h with ⟨rfl, rfl⟩ | ⟨g, cap, h1, _, h3⟩
  · exact idsV_nil w
  · exact .inr ⟨g, 0, cap, h1, own_ids h3⟩
theorem ownV_row {w : World} {base : Nat} {v : Value} {l : List Id} : OwnV w base v l ↔ w.ownsRow base 23 16 v l.length (flat l) := by
  constructor
  · rintro (⟨rfl, rfl⟩ | ⟨g, cap, rfl, hg, cur, h1, h2, h3, h4, h5⟩)
    · exact ⟨rfl, .inl ⟨rfl, rfl⟩⟩
    · exact ⟨flat_length l, .inr ⟨g, cap, cur, rfl, hg, h1, h3, h4, h2, h5⟩⟩
  · rintro ⟨_, ⟨h1, h2⟩ | ⟨g, cap, cur, h1, hg, h2, h3, h4, h5, h6⟩⟩
    · exact .inl ⟨h1, List.eq_nil_of_length_eq_zero h2⟩
    · exact .inr ⟨g, cap, h1, hg, cur, h2, h5, h3, h4, h6⟩
theorem ids_cells {w : World} {b off : Nat} {l : List Id} (h : IdsAt w b off l) : ∀ j u, (flat l)[j]? = some u → w.cell? ⟨b, off + j, none⟩ = some u := by
  intro j u hu
  have hj : j < l.length * 16 := by rw [← flat_length]; exact (List.getElem?_eq_some_iff.1 hu).1
  have hi : j / 16 < l.length := by omega
  have := rowAt_cell (h (j / 16) hi) (j % 16) (Nat.mod_lt _ (by omega))
  rw [show off + j / 16 * 16 + j % 16 = off + j by omega] at this
  rw [this, ← flat_row l _ hi, List.getElem?_take_of_lt (Nat.mod_lt _ (by omega)), List.getElem?_drop, show j / 16 * 16 + j % 16 = j by omega, hu]

theorem info_id : (Try.prog.info? 23).map (fun i => (i.zero, i.size, i.bytes)) = some (some (.agg (idL 0).toArray), 16, 16) := by kernel_rfl

theorem wpList_app {w : World} {ops : Array Oper} {rest : List Oper} {o : Oper} {a : Act} {Q : Exit → Act → World → Prop} (hgd : o.guard = none) (s x : Operand)
    (ho : o.op = .call { callee := .builtin .append, args := #[s, x], argTypes := #[24, 24] })
    (base : Nat) (v src : Value) (l m : List Id) (hs : a.eval s = v) (hx : a.eval x = src) (hown : OwnV w base v l) (hsrc : IdsV w src m) (hlen : l.length + m.length ≤ 8796093022208) (hbase : base ≤ w.heap.size)
    (h : ∀ v' w', OwnV w' base v' (l ++ m) → w.grownBy w' v.ownBlock → wpList Try.prog ops Q rest (a.put o.dst v') w') : wpList Try.prog ops Q (o :: rest) a w := by
  obtain ⟨i0, hi, hz0, hz1, hz2⟩ := info_parts info_id
  rcases hsrc with ⟨ao, cap, rfl, hao, rfl⟩ | ⟨b, off, cap, rfl, hr⟩
  · cases ao with
    | some ad =>
      refine wpList_append_own _ hgd s x _ ho base 23 i0 _ 16 16 Try.underlying24 hi hz0 hz1 hz2 rfl (by decide) v l.length (flat l) hs (ownV_row.1 hown) ad 0 cap [] hx rfl (by intro j u hu; simp at hu) (by intro u hu; cases hu) (by unfold maxLen; omega) (by simp at hlen; omega) hbase ?_
      intro v' w' hown' hg _
      exact h v' w' (ownV_row.2 (by simpa using hown')) hg
    | none =>
    obtain rfl := hao rfl
    refine wpList_append_own_none hgd s x _ ho base 23 i0 16 Try.underlying24 hi v l.length (flat l) hs (ownV_row.1 hown) hx ?_
    exact h v w (by simpa using hown) (World.grownBy.refl _ _)
  · refine wpList_append_own _ hgd s x _ ho base 23 i0 _ 16 16 Try.underlying24 hi hz0 hz1 hz2 rfl (by decide) v l.length (flat l) hs (ownV_row.1 hown) ⟨b, off, none⟩ m.length cap (flat m) hx (flat_length m) (by intro j u hu; rw [Addr.add_lit]; exact ids_cells hr j u hu) (flat_one m) (by unfold maxLen; omega) (by omega) hbase ?_
    intro v' w' hown' hg _
    exact h v' w' (ownV_row.2 (by simpa [flat_append] using hown')) hg

end Go.Proofs.Ytdbmggdnbdcanaa
