/- Maps whose keys are identities: look-ups and stores. -/
import Derived.Test.YtaifnopoojbcfaaWire2
import Derived.DeepKeys5
namespace Go.Proofs.Ytaifnopoojbcfaa
open Go.RowKit
open BigFrame

theorem mapM_ex {α β : Type} {f : α → Option β} : ∀ l : List α, (∀ x ∈ l, ∃ y, f x = some y) → ∃ ys, l.mapM f = some ys
  | [], _ => ⟨[], rfl⟩
  | x :: l, h => by
    obtain ⟨y, hy⟩ := h x (by simp)
    obtain ⟨ys, hys⟩ := mapM_ex l fun z hz => h z (by simp [hz])
    exact ⟨y :: ys, by simp [List.mapM_cons, hy, hys]⟩
theorem laid_prog : laidOutB Try.prog = true := by kernel_rfl
theorem types_small : Try.prog.types.size + 2 ≤ 10000 := of_decide_eq_true (by kernel_rfl)
theorem law_id : WideMaps.KeyLaw Try.prog 23 :=
  deep_law_gate laid_prog types_small (of_decide_eq_true (by kernel_rfl)) (by kernel_rfl) (by rw [Try.underlying23])
theorem cells_of_id : Try.prog.cellsOf 23 = 16 := by kernel_rfl
theorem cells_of_byte : Try.prog.cellsOf 5 = 1 := by kernel_rfl
theorem key_id (x : Id) : ∃ l, keyOf Try.prog 23 (.agg (idL x).toArray) = some l := by
  have hkt : Try.prog.keyType 23 = true := by kernel_rfl
  have hf : (Value.agg (idL x).toArray).formed Try.prog 23 = true := by
    unfold Value.formed
    simp only [Try.underlying23, cells_of_id]
    simp
  have hk : ∃ ls, Try.prog.keyLits (Try.prog.types.size + 1) 23 (Value.agg (idL x).toArray).cells.toList = some ls := by
    unfold Program.keyLits
    simp only [Try.underlying23, cells_of_id, cells_of_byte, Value.cells, idL_length, if_true]
    obtain ⟨ys, hys⟩ := mapM_ex (f := fun i => Try.prog.keyLits Try.prog.types.size 5 (((idL x).drop (i * 1)).take 1)) (List.range 16) fun i hi => by
      have hi' : i < 16 := by simpa using hi
      have e : ((idL x).drop (i * 1)).take 1 = [.int .u8 (byt x i : Nat)] := by
        rw [Nat.mul_one, List.drop_eq_getElem_cons (by simpa using hi')]
        have := idL_get x i hi'
        rw [List.getElem?_eq_getElem (by simpa using hi')] at this
        rw [Option.some.inj this]
        rfl
      rw [e]
      have ht : ∃ n, Try.prog.types.size = n + 1 := ⟨Try.prog.types.size - 1, by
        have : 0 < Try.prog.types.size := of_decide_eq_true (by kernel_rfl)
        omega⟩
      obtain ⟨n, hn⟩ := ht
      rw [hn]
      unfold Program.keyLits
      simp only [Try.underlying5]
      have hb := byt_lt x i
      rw [if_pos ⟨trivial, by simp [Lit.wf, IntKind.min, IntKind.max, IntKind.signed, IntKind.bits]; omega⟩]
      exact ⟨_, rfl⟩
    exact ⟨_, by rw [hys]; rfl⟩
  obtain ⟨ls, hls⟩ := hk
  unfold keyOf
  simp only [Try.underlying23, hkt, hf, Bool.and_self, if_true, hls]
  exact ⟨_, rfl⟩

def zItem : It := ⟨0, ⟨0, 0⟩, .slice none 0 0⟩
theorem run_zero_item (W : World) : (zeroValue 28).run Try.prog W = .ok (.agg (itemL zItem).toArray) W := by kernel_rfl
/-- A map that holds at most one item. -/
def MapAt (w : World) (mb : Nat) (M : Option (Id × It)) : Prop :=
  match M with
  | none => ∃ c, w.heap[mb]? = some (.map #[] c)
  | some (k, x) => ∃ n c, w.heap[mb]? = some (.map #[{ key := .agg (idL k).toArray, val := .agg (itemL x).toArray, born := n }] c)
def got (M : Option (Id × It)) (k : Id) : It × Bool :=
  match M with
  | none => (zItem, false)
  | some (k', x) => if k' = k then (x, true) else (zItem, false)
theorem find_none (W : World) (k : Id) : (Instr.findKey 23 (.agg (idL k).toArray) []).run Try.prog W = .ok none W := by
  obtain ⟨l, hl⟩ := key_id k
  rcases law_id.find W hl [] (by simp) with ⟨h1, _⟩ | ⟨j, e, _, h2, _⟩
  · exact h1
  · simp at h2
theorem find_one (W : World) (k y : Id) (v : Value) (n : Nat) : (Instr.findKey 23 (.agg (idL k).toArray) [{ key := .agg (idL y).toArray, val := v, born := n }]).run Try.prog W = .ok (if y = k then some (0, v) else none) W := by
  obtain ⟨l, hl⟩ := key_id k
  rcases law_id.find W hl [{ key := .agg (idL y).toArray, val := v, born := n }] (by intro e he; rw [List.mem_singleton.1 he]; exact key_id y) with ⟨h1, h2⟩ | ⟨j, e, h1, h2, h3⟩
  · rw [h1, if_neg]
    intro e
    subst e
    exact h2 _ (List.mem_singleton.2 rfl) rfl
  · have hj : j = 0 := by
      have := (List.getElem?_eq_some_iff.1 h2).1
      simpa using this
    subst hj
    simp at h2
    subst h2
    have : y = k := idL_inj (by simpa using h3)
    rw [h1, if_pos this]
theorem zlist : ([.int .u8 0, .int .u8 0, .int .u8 0, .int .u8 0, .int .u8 0, .int .u8 0, .int .u8 0, .int .u8 0, .int .u8 0, .int .u8 0, .int .u8 0, .int .u8 0, .int .u8 0, .int .u8 0, .int .u8 0, .int .u8 0, .int .i64 0, .int .u8 0, .int .u8 0, .int .u8 0, .int .u8 0, .int .u8 0, .int .u8 0, .int .u8 0, .int .u8 0, .int .u8 0, .int .u8 0, .int .u8 0, .int .u8 0, .int .u8 0, .int .u8 0, .int .u8 0, .int .u8 0, .slice none 0 0] : List Value) = itemL zItem := by kernel_rfl
theorem run_lookup (W : World) (mb : Nat) (M : Option (Id × It)) (k : Id) (ok : Bool) (h : MapAt W mb M) :
    (Instr.lookup 65 (.map (some mb)) (.agg (idL k).toArray) ok).run Try.prog W = .ok (if ok then .tuple #[.agg (itemL (got M k).1).toArray, .bool (got M k).2] else .agg (itemL (got M k).1).toArray) W := by
  obtain ⟨l, hl⟩ := key_id k
  cases M with
  | none =>
    obtain ⟨c, hc⟩ := h
    have hck := law_id.check W true hl
    have hfo := find_none W k
    cases ok <;> simp [Instr.lookup, run_underlying Try.underlying65, MapKept.run_getObj_map hc, hck, hfo, got, Result.andThen] <;> exact zlist
  | some m =>
    obtain ⟨y, x⟩ := m
    obtain ⟨n, c, hc⟩ := h
    have hck := law_id.check W false hl
    have hfo := find_one W k y (.agg (itemL x).toArray) n
    by_cases hy : y = k
    · subst hy
      rw [if_pos rfl] at hfo
      cases ok <;> simp [Instr.lookup, run_underlying Try.underlying65, MapKept.run_getObj_map hc, hck, hfo, got, Result.andThen]
    · rw [if_neg hy] at hfo
      cases ok <;> simp [Instr.lookup, run_underlying Try.underlying65, MapKept.run_getObj_map hc, hck, hfo, got, hy, Result.andThen] <;> exact zlist

/-- A look-up, by a name into which the walk does not look. -/
def lookupM (x y : Value) (ok : Bool) : Sem Value := Instr.lookup 65 x y ok
@[go_sem ↓, go_sem high] theorem lookup_alias (x y : Value) (ok : Bool) : Instr.lookup 65 x y ok = lookupM x y ok := rfl
theorem run_lookupM (W : World) (mb : Nat) (M : Option (Id × It)) (k : Id) (ok : Bool) (h : MapAt W mb M) :
    (lookupM (.map (some mb)) (.agg (idL k).toArray) ok).run Try.prog W = .ok (if ok then .tuple #[.agg (itemL (got M k).1).toArray, .bool (got M k).2] else .agg (itemL (got M k).1).toArray) W := run_lookup W mb M k ok h
theorem keptX_block (W : World) (b : Nat) (o : Obj) : KeptX [b] W { W with heap := W.heap.setIfInBounds b o } :=
  ⟨rfl, rfl, rfl, by simp, fun k _ hb => by
    have : b ≠ k := fun e => hb (by simp [e])
    simp [Array.getElem?_setIfInBounds_ne this]⟩
/-- A store under a key that is the only one. -/
theorem run_update (W : World) (mb : Nat) (M : Option (Id × It)) (k : Id) (x : It) (h : MapAt W mb M) (hM : ∀ y z, M = some (y, z) → y = k) :
    ∃ W', (Instr.mapUpdate 65 (.map (some mb)) (.agg (idL k).toArray) (.agg (itemL x).toArray)).run Try.prog W = .ok () W' ∧ MapAt W' mb (some (k, x)) ∧ KeptX [mb] W W' := by
  obtain ⟨l, hl⟩ := key_id k
  have hck := law_id.check W false hl
  cases M with
  | none =>
    obtain ⟨c, hc⟩ := h
    have hfo := find_none W k
    have hsz := (Array.getElem?_eq_some_iff.1 hc).1
    refine ⟨{ W with heap := W.heap.setIfInBounds mb (.map (#[].push { key := .agg (idL k).toArray, val := .agg (itemL x).toArray, born := c }) (c + 1)) }, ?_, ⟨c, c + 1, ?_⟩, keptX_block W mb _⟩
    · simp [Instr.mapUpdate, run_underlying Try.underlying65, MapKept.run_getObj_map hc, MapKept.run_setObj_map _ hc, hck, hfo, Result.andThen]
    · simp [hsz]
  | some m =>
    obtain ⟨y, z⟩ := m
    obtain rfl := hM y z rfl
    obtain ⟨n, c, hc⟩ := h
    have hfo := find_one W y y (.agg (itemL z).toArray) n
    rw [if_pos rfl] at hfo
    have hst := law_id.stays W hl
    have hsz := (Array.getElem?_eq_some_iff.1 hc).1
    refine ⟨{ W with heap := W.heap.setIfInBounds mb (.map #[{ key := .agg (idL y).toArray, val := .agg (itemL x).toArray, born := n }] c) }, ?_, ⟨n, c, ?_⟩, keptX_block W mb _⟩
    · simp [Instr.mapUpdate, run_underlying Try.underlying65, MapKept.run_getObj_map hc, MapKept.run_setObj_map _ hc, hck, hfo, hst, Result.andThen, Array.modify]
      rfl
    · simp [hsz]
theorem map_x {bs : List Nat} {w w' : World} (hk : KeptX bs w w') {mb : Nat} {M : Option (Id × It)} (h : MapAt w mb M) (hn : mb ∉ bs) : MapAt w' mb M := by
  cases M with
  | none => obtain ⟨c, hc⟩ := h; exact ⟨c, heap_x hk hc hn⟩
  | some m => obtain ⟨n, c, hc⟩ := h; exact ⟨n, c, heap_x hk hc hn⟩
theorem map_kept {w w' : World} (hk : Kept w w') {mb : Nat} {M : Option (Id × It)} (h : MapAt w mb M) : MapAt w' mb M := map_x (bs := []) (xk hk) h (by simp)
theorem map_lt {w : World} {mb : Nat} {M : Option (Id × It)} (h : MapAt w mb M) : mb < w.heap.size := by
  cases M with
  | none => obtain ⟨c, hc⟩ := h; exact (Array.getElem?_eq_some_iff.1 hc).1
  | some m => obtain ⟨n, c, hc⟩ := h; exact (Array.getElem?_eq_some_iff.1 hc).1
theorem wpList_update {w : World} {ops : Array Oper} {rest : List Oper} {o : Oper} {a : Act} {Q : Exit → Act → World → Prop} (hgd : o.guard = none) (m k v : Operand) (ho : o.op = .mapUpdate 65 m k v)
    (mb : Nat) (M : Option (Id × It)) (key : Id) (x : It) (hm : a.eval m = .map (some mb)) (hk : a.eval k = .agg (idL key).toArray) (hv : a.eval v = .agg (itemL x).toArray) (h : MapAt w mb M) (hM : ∀ y z, M = some (y, z) → y = key)
    (hQ : ∀ w', MapAt w' mb (some (key, x)) → KeptX [mb] w w' → wpList Try.prog ops Q rest (a.put o.dst undef) w') : wpList Try.prog ops Q (o :: rest) a w := by
  refine wpList_plain hgd fun K' hK' => ?_
  obtain ⟨w', hrun, r1, r2⟩ := run_update w mb M key x h hM
  unfold Oper.wp
  simp [execOp, ho, hm, hk, hv, hrun, Result.andThen]
  exact hK' _ _ (hQ w' r1 r2)
theorem alloc_item (W : World) : (Instr.alloc 28 true (.tuple #[])).run Try.prog W = .ok (.pointer (some ⟨W.heap.size, 0, none⟩)) (W.alloc (.cells (itemL zItem).toArray 28)) := by
  rw [← zlist]
  go_simp
end Go.Proofs.Ytaifnopoojbcfaa
