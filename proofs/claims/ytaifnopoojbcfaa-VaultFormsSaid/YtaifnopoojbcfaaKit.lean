/- Rows of cells read and written whole, as rules of the walk; what a call leaves of old memory. No program is named here. -/
import Derived.WalkKit
import Derived.WalkSpells
import Derived.WalkLawsBesides
import Derived.Lib.Hide
import Derived.Deep.MidRow
import Derived.Deep.LoopGhost
import Derived.BigQuiet
import Derived.Lib.QuietBelow
import Derived.Deep.RegionHeld3
namespace Go.Proofs.Ytaifnopoojbcfaa
open Go.RowKit
variable {P : Program}

/-- The k cells from offset o of block b on. -/
def rowAt (w : World) (b o k : Nat) : Option (List Value) :=
  match w.heap[b]? with
  | some (.cells c _ _) => if o + k ≤ c.size then some ((c.toList.drop o).take k) else none
  | _ => none

/-- May k cells from offset o of block b on be written? -/
def canPut (w : World) (b o k : Nat) : Bool :=
  match w.heap[b]? with
  | some (.cells c _ fr) => decide (o + k ≤ c.size) && fr == (0, 0)
  | _ => false

theorem rowAt_range {w : World} {b o k : Nat} {cs : List Value} (h : rowAt w b o k = some cs) : w.rangeAt b o cs ∧ cs.length = k := by
  unfold rowAt at h
  split at h
  · rename_i c t fr hg
    split at h
    · rename_i hk
      simp only [Option.some.injEq] at h
      subst h
      refine ⟨fun j v hv => ?_, by simp; omega⟩
      rw [cell_of_row w b (o + j) c t fr hg]
      have hj : j < k := by
        have := (List.getElem?_eq_some_iff.1 hv).1
        simp at this; omega
      rw [List.getElem?_take_of_lt hj, List.getElem?_drop] at hv
      simpa using hv
    · cases h
  · cases h

theorem rowAt_size {w : World} {b o k : Nat} {cs : List Value} (h : rowAt w b o k = some cs) : b < w.heap.size := by
  unfold rowAt at h
  split at h
  · rename_i hg; exact (Array.getElem?_eq_some_iff.1 hg).1
  · cases h

theorem canPut_there {w : World} {b o k : Nat} (h : canPut w b o k = true) : w.there b o k := by
  unfold canPut at h
  split at h
  · rename_i c t fr hg
    simp at h
    obtain ⟨h1, h2⟩ := h
    subst h2
    intro j hj
    rw [cell_of_row w b (o + j) c t (0, 0) hg, frozen_of_row w b (o + j) c t hg]
    simp
    omega
  · cases h

theorem canPut_size {w : World} {b o k : Nat} (h : canPut w b o k = true) : b < w.heap.size := by
  unfold canPut at h
  split at h
  · rename_i hg; exact (Array.getElem?_eq_some_iff.1 hg).1
  · cases h

theorem rowAt_same {w w' : World} {b : Nat} (h : w'.heap[b]? = w.heap[b]?) (o k : Nat) : rowAt w' b o k = rowAt w b o k := by simp [rowAt, h]
theorem canPut_same {w w' : World} {b : Nat} (h : w'.heap[b]? = w.heap[b]?) (o k : Nat) : canPut w' b o k = canPut w b o k := by simp [canPut, h]

@[go_sem] theorem rowAt_drew (w : World) (b o k : Nat) : rowAt w.drew b o k = rowAt w b o k := rfl
@[go_sem] theorem canPut_drew (w : World) (b o k : Nat) : canPut w.drew b o k = canPut w b o k := rfl
@[go_sem] theorem rowAt_drewN (w : World) (n b o k : Nat) : rowAt (w.drewN n) b o k = rowAt w b o k := rfl
@[go_sem] theorem canPut_drewN (w : World) (n b o k : Nat) : canPut (w.drewN n) b o k = canPut w b o k := rfl
@[go_sem] theorem rowAt_alloc_past (w : World) (ob : Obj) (n o k : Nat) (hn : n < w.heap.size) : rowAt (w.alloc ob) n o k = rowAt w n o k :=
  rowAt_same (Below.heap_alloc w ob n hn) o k
@[go_sem] theorem canPut_alloc_past (w : World) (ob : Obj) (n o k : Nat) (hn : n < w.heap.size) : canPut (w.alloc ob) n o k = canPut w n o k :=
  canPut_same (Below.heap_alloc w ob n hn) o k
@[go_sem] theorem rowAt_alloc_at (w : World) (L : List Value) (t : TypeId) (n k : Nat) (hn : n = w.heap.size) (hk : L.length = k) : rowAt (w.alloc (.cells L.toArray t)) n 0 k = some L := by
  subst hn hk
  unfold rowAt
  rw [heap_alloc_new]
  simp
@[go_sem] theorem canPut_alloc_at (w : World) (c : Array Value) (t : TypeId) (n o k : Nat) (hn : n = w.heap.size) : canPut (w.alloc (.cells c t)) n o k = decide (o + k ≤ c.size) := by
  subst hn
  unfold canPut
  rw [heap_alloc_new]
  simp

/-- A row written. -/
def putRow (w : World) (b o : Nat) (L : List Value) : World := w.setCells b o L

theorem heap_setCells_other (b : Nat) (k : Nat) (hk : k ≠ b) : ∀ (L : List Value) (o : Nat) (w : World), (w.setCells b o L).heap[k]? = w.heap[k]?
  | [], _, _ => rfl
  | v :: r, o, w => by rw [World.setCells, heap_setCells_other b k hk r, Below.heap_setCell _ _ _ _ hk]
theorem size_setCells (b : Nat) : ∀ (L : List Value) (o : Nat) (w : World), (w.setCells b o L).heap.size = w.heap.size
  | [], _, _ => rfl
  | v :: r, o, w => by rw [World.setCells, size_setCells b r, World.size_setCell]
@[go_sem, simp] theorem size_putRow (w : World) (b o : Nat) (L : List Value) : (putRow w b o L).heap.size = w.heap.size := size_setCells b L o w
theorem heap_putRow_other (w : World) (b o k : Nat) (L : List Value) (hk : k ≠ b) : (putRow w b o L).heap[k]? = w.heap[k]? := heap_setCells_other b k hk L o w

theorem take_succ_set (l : List Value) (o : Nat) (v : Value) (h : o < l.length) : (l.take (o + 1)).set o v = l.take o ++ [v] := by
  apply List.ext_getElem?
  intro i
  rw [List.getElem?_set, List.getElem?_append]
  simp only [List.length_take, List.getElem?_take]
  by_cases h1 : o = i
  · subst h1
    rw [if_pos rfl, if_pos (by omega), if_neg (by omega)]
    simp [Nat.min_eq_left (Nat.le_of_lt h)]
  · rw [if_neg h1]
    by_cases h2 : i < o
    · rw [if_pos (by omega), if_pos (by omega), if_pos h2]
    · rw [if_neg (by omega), if_neg (by omega), List.getElem?_eq_none (by simp; omega)]

theorem heap_setCells_same (b : Nat) (t : TypeId) : ∀ (L : List Value) (o : Nat) (w : World) (c : Array Value), w.heap[b]? = some (.cells c t (0, 0)) → o + L.length ≤ c.size →
    ∃ c' : Array Value, (w.setCells b o L).heap[b]? = some (.cells c' t (0, 0)) ∧ c'.size = c.size ∧ c'.toList = c.toList.take o ++ L ++ c.toList.drop (o + L.length)
  | [], o, w, c, hg, hl => ⟨c, hg, rfl, by simp⟩
  | v :: r, o, w, c, hg, hl => by
    simp only [List.length_cons] at hl
    have h1 := heap_setCell_same w b o c t v hg
    obtain ⟨c', h2, h3, h4⟩ := heap_setCells_same b t r (o + 1) _ _ h1 (by simp; omega)
    refine ⟨c', h2, by rw [h3]; simp, ?_⟩
    rw [h4]
    simp only [Array.toList_setIfInBounds]
    have hlen : o < c.toList.length := by simp; omega
    rw [List.take_set, List.drop_set_of_lt (by omega)]
    rw [take_succ_set c.toList o v hlen]
    simp only [List.length_cons]
    rw [show o + 1 + r.length = o + (r.length + 1) by omega]
    simp

theorem heap_putRow_same {w : World} {b o : Nat} {t : TypeId} {c : Array Value} {L : List Value} (hg : w.heap[b]? = some (.cells c t (0, 0))) (hl : o + L.length ≤ c.size) :
    ∃ c' : Array Value, (putRow w b o L).heap[b]? = some (.cells c' t (0, 0)) ∧ c'.size = c.size ∧ c'.toList = c.toList.take o ++ L ++ c.toList.drop (o + L.length) :=
  heap_setCells_same b t L o w c hg hl

theorem canPut_block {w : World} {b o k : Nat} (h : canPut w b o k = true) : ∃ c t, w.heap[b]? = some (.cells c t (0, 0)) ∧ o + k ≤ c.size := by
  unfold canPut at h
  split at h
  · rename_i c t fr hg
    simp at h
    obtain ⟨h1, rfl⟩ := h
    exact ⟨c, t, hg, h1⟩
  · cases h

@[go_sem] theorem rowAt_put_same (w : World) (b o k : Nat) (L : List Value) (hk : L.length = k) (h : canPut w b o k = true) : rowAt (putRow w b o L) b o k = some L := by
  subst hk
  obtain ⟨c, t, hg, hl⟩ := canPut_block h
  obtain ⟨c', h1, h2, h3⟩ := heap_putRow_same hg hl
  unfold rowAt
  rw [h1]
  simp only [h2, hl, if_true, h3]
  congr 1
  have : (c.toList.take o).length = o := by simp; omega
  rw [List.append_assoc, List.drop_append_of_le_length (by omega), List.drop_of_length_le (by omega)]
  simp
theorem canPut_put {w : World} {b o k b' o' : Nat} (L : List Value) (h : canPut w b o k = true) (h' : canPut w b' o' L.length = true) : canPut (putRow w b' o' L) b o k = true := by
  by_cases hb : b = b'
  · subst hb
    obtain ⟨c, t, hg, hl⟩ := canPut_block h
    obtain ⟨c2, t2, hg2, hl2⟩ := canPut_block h'
    rw [hg] at hg2
    simp only [Option.some.injEq, Obj.cells.injEq] at hg2
    obtain ⟨rfl, rfl, _⟩ := hg2
    obtain ⟨c', h1, h2, h3⟩ := heap_putRow_same hg hl2
    unfold canPut
    rw [h1]
    simp [h2, hl]
  · rw [canPut_same (heap_putRow_other w b' o' b L hb)]; exact h
@[go_sem] theorem rowAt_put_other (w : World) (b o b' o' k : Nat) (L : List Value) (hb : b ≠ b') : rowAt (putRow w b' o' L) b o k = rowAt w b o k :=
  rowAt_same (heap_putRow_other w b' o' b L hb) o k
@[go_sem] theorem canPut_put_other (w : World) (b o b' o' k : Nat) (L : List Value) (hb : b ≠ b') : canPut (putRow w b' o' L) b o k = canPut w b o k :=
  canPut_same (heap_putRow_other w b' o' b L hb) o k

@[go_sem] theorem putRow_alloc_at (w : World) (c : Array Value) (t : TypeId) (n : Nat) (L : List Value) (hn : n = w.heap.size) (hl : L.length = c.size) :
    putRow (w.alloc (.cells c t)) n 0 L = w.alloc (.cells L.toArray t) := by
  subst hn
  have hs := setRow_eq_of (w := w) c t L hl
  exact hs
where
  setRow_eq_of {w : World} (c : Array Value) (t : TypeId) (L : List Value) (hl : L.length = c.size) : (w.alloc (.cells c t)).setCells w.heap.size 0 L = w.alloc (.cells L.toArray t) := by
    have key : ∀ (L : List Value) (o : Nat) (c : Array Value), o + L.length = c.size → (w.alloc (.cells c t)).setCells w.heap.size o L = w.alloc (.cells ((c.toList.take o) ++ L).toArray t) := by
      intro L
      induction L with
      | nil =>
        intro o c h
        simp only [List.length_nil, Nat.add_zero] at h
        subst h
        rw [List.append_nil, List.take_of_length_le (by simp)]
        rfl
      | cons v r ih =>
        intro o c h
        simp only [List.length_cons] at h
        rw [World.setCells, World.setCell_alloc_at _ _ _ _ _ rfl, ih (o + 1) _ (by simp; omega)]
        congr 3
        have hlen : o < c.toList.length := by simp; omega
        simp only [Array.toList_setIfInBounds]
        rw [List.take_set]
        rw [take_succ_set c.toList o v hlen]; simp
    simpa using key L 0 c (by omega)

theorem setCells_alloc_past (ob : Obj) (n : Nat) : ∀ (L : List Value) (o : Nat) (w : World), n < w.heap.size → (w.alloc ob).setCells n o L = (w.setCells n o L).alloc ob
  | [], _, _, _ => rfl
  | v :: r, o, w, hn => by
    rw [World.setCells, World.setCell_alloc_past _ _ _ _ hn, setCells_alloc_past ob n r (o + 1) _ (by simpa using hn)]; rfl
@[go_sem] theorem putRow_alloc_past (w : World) (ob : Obj) (n o : Nat) (L : List Value) (hn : n < w.heap.size) : putRow (w.alloc ob) n o L = (putRow w n o L).alloc ob :=
  setCells_alloc_past ob n L o w hn
@[go_sem] theorem putRow_drew (w : World) (n o : Nat) (L : List Value) : putRow w.drew n o L = (putRow w n o L).drew := by
  have key : ∀ (L : List Value) (o : Nat) (w : World), w.drew.setCells n o L = (w.setCells n o L).drew := by
    intro L
    induction L with
    | nil => intro o w; rfl
    | cons v r ih => intro o w; rw [World.setCells, World.setCell_drew, ih]; rfl
  exact key L o w

theorem below_putRow {B : Nat} {a w : World} (h : Below B a w) {b : Nat} (hb : B ≤ b) (o : Nat) (L : List Value) : Below B a (putRow w b o L) := by
  have key : ∀ (L : List Value) (o : Nat) (w : World), Below B a w → Below B a (w.setCells b o L) := by
    intro L
    induction L with
    | nil => intro o w h; exact h
    | cons v r ih => intro o w h; exact ih (o + 1) _ (h.setCell (by exact hb) v)
  exact key L o w h

/-- The load of a whole row, by a name into which the walk does not look. -/
def loadRow (t : TypeId) (x : Value) : Sem Value := Instr.loadAt t x
def loadRowStuck (t : TypeId) (x : Value) : Sem Value := Instr.loadAt t x
theorem run_loadRow_of {t : TypeId} {d : TypeDesc} {k : Nat} (hu : P.underlying t = some d) (hd : d.isRow = true) (hi : (P.info? t).map (·.size) = some k) (b o : Nat) (W : World) :
    (loadRow t (.pointer (some ⟨b, o, none⟩))).run P W = (match rowAt W b o k with | some cs => .ok (.agg cs.toArray) W | none => (loadRowStuck t (.pointer (some ⟨b, o, none⟩))).run P W) := by
  cases h : rowAt W b o k with
  | none => rfl
  | some cs =>
    obtain ⟨hr, hl⟩ := rowAt_range h
    exact run_loadAt_mid W b o t cs d hr hu hd (by rw [hl]; exact hi)

/-- The store of a whole row, likewise. -/
def storeRow (t : TypeId) (x v : Value) : Sem Unit := Instr.storeAt t x v
def storeRowStuck (t : TypeId) (x v : Value) : Sem Unit := Instr.storeAt t x v
/-- Are these k values, each of one cell? -/
def rowOk (cs : Array Value) (k : Nat) : Bool := cs.size == k && cs.all (·.oneCell')
theorem run_storeRow_of {t : TypeId} {k : Nat} (hi : (P.info? t).map (·.size) = some k) (b o : Nat) (cs : Array Value) (W : World) :
    (storeRow t (.pointer (some ⟨b, o, none⟩)) (.agg cs)).run P W = (if rowOk cs k = true then (if canPut W b o k = true then .ok () (putRow W b o cs.toList) else (storeRowStuck t (.pointer (some ⟨b, o, none⟩)) (.agg cs)).run P W) else (storeRowStuck t (.pointer (some ⟨b, o, none⟩)) (.agg cs)).run P W) := by
  by_cases h1 : rowOk cs k = true
  · by_cases h2 : canPut W b o k = true
    · rw [if_pos h1, if_pos h2]
      unfold rowOk at h1
      simp only [Bool.and_eq_true, beq_iff_eq] at h1
      obtain ⟨rfl, h1⟩ := h1
      exact run_storeAt_mid W b o t cs (canPut_there h2) hi h1
    · rw [if_pos h1, if_neg h2]; rfl
  · rw [if_neg h1]; rfl

/-- What a call leaves of old memory, fact by fact. -/
theorem rowAt_below {W w1 : World} (hb : Below W.heap.size W w1) {b o k : Nat} {cs : List Value} (h : rowAt W b o k = some cs) : rowAt w1 b o k = some cs := by
  rw [rowAt_same (hb.block b (rowAt_size h))]; exact h
theorem canPut_below {W w1 : World} (hb : Below W.heap.size W w1) {b o k : Nat} (h : canPut W b o k = true) : canPut w1 b o k = true := by
  rw [canPut_same (hb.block b (canPut_size h))]; exact h
theorem below_drewN {B : Nat} {a w : World} (h : Below B a w) (n : Nat) : Below B a (w.drewN n) := ⟨h.os, h.tape, h.output, h.size, h.block⟩
theorem below_lift {B : Nat} {a W w1 : World} (h : Below B a W) (hb : Below W.heap.size W w1) (hB : B ≤ W.heap.size) : Below B a w1 := h.trans (hb.mono hB)

abbrev Kept (w W : World) : Prop := Below w.heap.size w W
theorem heap_at (w : World) (o : Obj) {n : Nat} (h : n = w.heap.size) : (w.alloc o).heap[n]? = some o := by subst h; exact heap_alloc_new w o
theorem heap_past (w : World) (o : Obj) {n : Nat} {x : Obj} (h : w.heap[n]? = some x) : (w.alloc o).heap[n]? = some x := by
  rw [Below.heap_alloc w o n (Array.getElem?_eq_some_iff.1 h).1]; exact h
theorem heap_kept {w w' : World} (hk : Kept w w') {n : Nat} {x : Obj} (h : w.heap[n]? = some x) : w'.heap[n]? = some x := by
  rw [hk.block n (Array.getElem?_eq_some_iff.1 h).1]; exact h
theorem rowAt_heap {w : World} {n k : Nat} {L : List Value} {t : TypeId} {fr : Nat × Nat} (h : w.heap[n]? = some (.cells L.toArray t fr)) (hk : L.length = k) : rowAt w n 0 k = some L := by
  subst hk; unfold rowAt; rw [h]; simp
theorem canPut_heap {w : World} {n k : Nat} {c : Array Value} {t : TypeId} (h : w.heap[n]? = some (.cells c t (0, 0))) (hk : c.size = k) : canPut w n 0 k = true := by
  subst hk; unfold canPut; rw [h]; simp

@[go_sem] theorem rowAt_set_other (w : World) (a : Addr) (v : Value) (b o k : Nat) (h : b ≠ a.block) : rowAt (w.setCell a v) b o k = rowAt w b o k :=
  rowAt_same (Below.heap_setCell w a v b h) o k
@[go_sem] theorem canPut_set_other (w : World) (a : Addr) (v : Value) (b o k : Nat) (h : b ≠ a.block) : canPut (w.setCell a v) b o k = canPut w b o k :=
  canPut_same (Below.heap_setCell w a v b h) o k

/-- Of what was there when the call began nothing has turned: step by step. -/
theorem k0 (w : World) : Kept w w := Below.refl _ _
theorem ka {w W : World} (h : Kept w W) (o : Obj) : Kept w (W.alloc o) := h.alloc h.size o
theorem kt {w W w1 : World} (h : Kept w W) (hb : Kept W w1) : Kept w w1 := h.trans (hb.mono h.size)
theorem kd {w W : World} (h : Kept w W) : Kept w W.drew := h.drew
theorem kdn {w W : World} (h : Kept w W) (n : Nat) : Kept w (W.drewN n) := below_drewN h n
theorem kp {w W : World} (h : Kept w W) {b : Nat} (hb : w.heap.size ≤ b) (o : Nat) (L : List Value) : Kept w (putRow W b o L) := below_putRow h hb o L
theorem ks {w W : World} (h : Kept w W) {a : Addr} (hb : w.heap.size ≤ a.block) (v : Value) : Kept w (W.setCell a v) := h.setCell hb v

/-- A walk stands still here. -/
def Stopped (p : Prop) : Prop := p
theorem stop_here {p : Prop} (h : Stopped p) : p := h
theorem Stopped.go {p : Prop} (h : p) : Stopped p := h

/-- The state at a piece of code, said by what it is good for. -/
theorem wp_any_world {c : Code} {Q : Exit → Act → World → Prop} {a : Act} {w : World} (S : World → Prop) (h0 : S w) (h : ∀ W, S W → c.wp P Q a W) : c.wp P Q a w := h w h0

/-- A world in which nothing of w's has turned, by a name into which the walk does not look. -/
def later (w : World) (p : Regrown) : World := Go.Sort.grow (redrawn w p.d) p.os
theorem kept_later (w : World) (p : Regrown) : Kept w (later w p) := below_regrown w p.d p.os
theorem later_kept {w w' : World} (h : Kept w w') : ∃ p, w' = later w p := regrown_of_below h
theorem rowAt_later {w : World} {b o k : Nat} {cs : List Value} (h : rowAt w b o k = some cs) (p : Regrown) : rowAt (later w p) b o k = some cs := rowAt_below (kept_later w p) h
theorem cell_later {w : World} {a : Addr} {v : Value} (h : w.cell? a = some v) (p : Regrown) : (later w p).cell? a = some v := by
  rw [(kept_later w p).cell (block_lt_of_cell h)]; exact h
theorem calls_later {f : FuncId} {args : Array Value} {w : World} {p : Regrown} {v : Value} (h : Calls P f args (later w p) fun e w' => e = .returned v ∧ Kept (later w p) w') :
    Calls P f args (later w p) fun e w'' => e = .returned v ∧ ∃ q, w'' = later w q :=
  h.mono fun _ _ ⟨he, hb⟩ => ⟨he, later_kept (kt (kept_later w p) hb)⟩
theorem wp_region_later {id : Nat} {Q : Exit → Act → World → Prop} {a : Act} {w : World} {l : List Oper} (hm : P.follows .mixedOrders = true) (hB : Region.lexB .any l.toArray = true)
    (h : wpQuiet P l.toArray (fun w' => ∃ p : Regrown, w' = later w p) (fun a' => ∀ w', Kept w w' → Q .normal a' w') l a) : (Code.region id l.toArray true).wp P Q a w := by
  refine wp_region_quiet_below hm hB ?_
  have e : (fun a' => ∀ w', (∃ p : Regrown, w' = Go.Sort.grow (redrawn w p.d) p.os) → Q .normal a' w') = (fun a' => ∀ w', Kept w w' → Q .normal a' w') := by
    funext a'
    apply propext
    exact ⟨fun h w' hk => h w' (regrown_of_below hk), fun h w' ⟨p, hp⟩ => h w' (hp ▸ below_regrown w p.d p.os)⟩
  rw [e]
  exact h

/-- What was stored in a new block of old memory: a cell of a row. -/
theorem rowAt_cell {w : World} {b o k : Nat} {cs : List Value} (h : rowAt w b o k = some cs) (j : Nat) (hj : j < k) : w.cell? ⟨b, o + j, none⟩ = cs[j]? := by
  obtain ⟨h1, h2⟩ := rowAt_range h
  rw [h1 j cs[j] (List.getElem?_eq_getElem (by omega)), List.getElem?_eq_getElem (by omega)]

/-- A result that lies in a slot of memory. -/
theorem results_row {fn : Func} {p : Tmp} {ty : TypeId} (h : fn.results = #[.cell p ty]) (tmps : Array Value) (w : World) (b : Nat) (cs : List Value) (d : TypeDesc) (k : Nat)
    (hp : tmps.getD p undef = .pointer (some ⟨b, 0, none⟩)) (hg : rowAt w b 0 k = some cs)
    (hu : P.underlying ty = some d) (hd : d.isRow = true) (hi : (P.info? ty).map (·.size) = some k) :
    (results fn tmps).run P w = .ok (.agg cs.toArray) w := by
  obtain ⟨hr, hl⟩ := rowAt_range hg
  have hp' : tmps[p]?.getD undef = .pointer (some ⟨b, 0, none⟩) := by simpa using hp
  have := run_loadVar_mid (P := P) w b 0 ty cs d hr hu hd (by rw [hl]; exact hi)
  simp [results, h, hp', asAddr, this]

end Go.Proofs.Ytaifnopoojbcfaa
