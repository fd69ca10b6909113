/- Disks in memory; what a call that writes leaves of old memory; disk.New, Size, Read, Power. -/
import Derived.Test.YtaifnopoojbcfaaVTypes
namespace Go.Proofs.Ytaifnopoojbcfaa
open Go.RowKit
open BigFrame

/-- Of what was there, outside these blocks, nothing has turned. -/
structure KeptX (bs : List Nat) (w w' : World) : Prop where
  os : w'.os = w.os
  tape : w'.tape = w.tape
  output : w'.output = w.output
  size : w.heap.size ≤ w'.heap.size
  block : ∀ k, k < w.heap.size → k ∉ bs → w'.heap[k]? = w.heap[k]?
theorem x0 (bs : List Nat) (w : World) : KeptX bs w w := ⟨rfl, rfl, rfl, Nat.le_refl _, fun _ _ _ => rfl⟩
theorem xk {bs : List Nat} {w w' : World} (h : Kept w w') : KeptX bs w w' := ⟨h.os, h.tape, h.output, h.size, fun k hk _ => h.block k hk⟩
theorem xt {bs : List Nat} {a b c : World} (h : KeptX bs a b) (k : KeptX bs b c) : KeptX bs a c :=
  ⟨k.os.trans h.os, k.tape.trans h.tape, k.output.trans h.output, Nat.le_trans h.size k.size, fun i hi hb => (k.block i (Nat.lt_of_lt_of_le hi h.size) hb).trans (h.block i hi hb)⟩
theorem xm {bs cs : List Nat} {a b : World} (h : KeptX bs a b) (hs : ∀ k ∈ bs, k ∈ cs) : KeptX cs a b :=
  ⟨h.os, h.tape, h.output, h.size, fun i hi hb => h.block i hi fun hc => hb (hs i hc)⟩
/-- Blocks that were not yet there may be named or not. -/
theorem xkept {bs : List Nat} {a b : World} (h : KeptX bs a b) (hs : ∀ k ∈ bs, a.heap.size ≤ k) : Kept a b :=
  ⟨h.os, h.tape, h.output, h.size, fun i hi => h.block i hi fun hc => by have := hs i hc; omega⟩
theorem xset {bs : List Nat} {a b : World} (h : KeptX bs a b) {p : Addr} (hp : p.block ∈ bs) (v : Value) : KeptX bs a (b.setCell p v) :=
  ⟨h.os, h.tape, h.output, by rw [World.size_setCell]; exact h.size, fun i hi hb => by rw [Below.heap_setCell _ _ _ _ (fun e => hb (by rw [e]; exact hp))]; exact h.block i hi hb⟩
theorem xput {bs : List Nat} {a b : World} (h : KeptX bs a b) {g : Nat} (hg : g ∈ bs) (o : Nat) (L : List Value) : KeptX bs a (putRow b g o L) :=
  ⟨by rw [← h.os]; exact (kp_os b g o L).1, by rw [← h.tape]; exact (kp_os b g o L).2.1, by rw [← h.output]; exact (kp_os b g o L).2.2, by rw [size_putRow]; exact h.size, fun i hi hb => by rw [heap_putRow_other _ _ _ _ _ (fun e => hb (by rw [e]; exact hg))]; exact h.block i hi hb⟩
where
  kp_os (b : World) (g o : Nat) (L : List Value) : (putRow b g o L).os = b.os ∧ (putRow b g o L).tape = b.tape ∧ (putRow b g o L).output = b.output := by
    have key : ∀ (L : List Value) (o : Nat) (w : World), (w.setCells g o L).os = w.os ∧ (w.setCells g o L).tape = w.tape ∧ (w.setCells g o L).output = w.output := by
      intro L
      induction L with
      | nil => intro o w; exact ⟨rfl, rfl, rfl⟩
      | cons v r ih => intro o w; exact ih (o + 1) _
    exact key L o b
theorem heap_x {bs : List Nat} {w w' : World} (hk : KeptX bs w w') {n : Nat} {x : Obj} (h : w.heap[n]? = some x) (hn : n ∉ bs) : w'.heap[n]? = some x := by
  rw [hk.block n (Array.getElem?_eq_some_iff.1 h).1 hn]; exact h
theorem cell_x {bs : List Nat} {w w' : World} (hk : KeptX bs w w') {a : Addr} {v : Value} (h : w.cell? a = some v) (hn : a.block ∉ bs) : w'.cell? a = some v := by
  rw [World.cell?_of_block (hk.block a.block (block_lt_of_cell h) hn)]; exact h
theorem rowAt_x {bs : List Nat} {w w' : World} (hk : KeptX bs w w') {b o k : Nat} {cs : List Value} (h : rowAt w b o k = some cs) (hn : b ∉ bs) : rowAt w' b o k = some cs := by
  rw [rowAt_same (hk.block b (rowAt_size h) hn)]; exact h
theorem elV_x {bs : List Nat} {w w' : World} (hk : KeptX bs w w') {v : Value} {xs : List Value} (h : ElV w v xs) (hn : ∀ k, v.ownBlock = some k → k ∉ bs) : ElV w' v xs := by
  rcases h with h | ⟨b, off, cap, h1, h2, h3⟩
  · exact .inl h
  · refine .inr ⟨b, off, cap, h1, h2, fun j u hu => cell_x hk (h3 j u hu) ?_⟩
    subst h1
    exact hn b rfl

theorem owV_x {bs : List Nat} {w w' : World} (hk : KeptX bs w w') {base : Nat} {t : TypeId} {v : Value} {xs : List Value} (h : OwV w base t v xs) (hn : ∀ k ∈ bs, k < base) : OwV w' base t v xs := by
  obtain ⟨h1, h2 | ⟨g, cap, cur, e, hg, hh, r⟩⟩ := h
  · exact ⟨h1, .inl h2⟩
  · exact ⟨h1, .inr ⟨g, cap, cur, e, hg, heap_x hk hh (fun hc => by have := hn g hc; omega), r⟩⟩
/-- A sector's bytes, padded; a sector of noughts. -/
def zsec : List UInt8 := List.replicate 64 0
def pad (l : List UInt8) : List UInt8 := l ++ List.replicate (64 - l.length) 0
theorem zsec_length : zsec.length = 64 := by simp [zsec]
theorem pad_length {l : List UInt8} (h : l.length ≤ 64) : (pad l).length = 64 := by simp [pad]; omega
theorem flat_len : ∀ (S : List (List UInt8)), (∀ s ∈ S, s.length = 64) → S.flatten.length = S.length * 64
  | [], _ => rfl
  | s :: S, h => by
    rw [List.flatten_cons, List.length_append, flat_len S fun x hx => h x (by simp [hx]), h s (by simp), List.length_cons]; omega
theorem flat_sub : ∀ (S : List (List UInt8)) (i : Nat) (hi : i < S.length), (∀ s ∈ S, s.length = 64) → (S.flatten.drop (i * 64)).take 64 = S[i]
  | s :: S, 0, _, h => by
    have := h s (by simp)
    simp only [Nat.zero_mul, List.drop_zero, List.flatten_cons, List.getElem_cons_zero]
    rw [← this, List.take_left]
  | s :: S, i + 1, hi, h => by
    have hs := h s (by simp)
    rw [List.flatten_cons, show (i + 1) * 64 = s.length + i * 64 by omega, List.drop_append, List.getElem_cons_succ]
    have : s.drop (s.length + i * 64) = [] := List.drop_of_length_le (by omega)
    rw [this, List.nil_append, show s.length + i * 64 - s.length = i * 64 by omega]
    exact flat_sub S i (by simpa using hi) fun x hx => h x (by simp [hx])
theorem flat_set : ∀ (S : List (List UInt8)) (i : Nat) (_ : i < S.length) (t : List UInt8), (∀ s ∈ S, s.length = 64) → (S.set i t).flatten = S.flatten.take (i * 64) ++ t ++ S.flatten.drop (i * 64 + 64)
  | s :: S, 0, _, t, h => by
    have := h s (by simp)
    simp [← this]
  | s :: S, i + 1, hi, t, h => by
    have hs := h s (by simp)
    rw [List.set_cons_succ, List.flatten_cons, flat_set S i (by simpa using hi) t fun x hx => h x (by simp [hx]), List.flatten_cons]
    rw [show (i + 1) * 64 = s.length + i * 64 by omega, List.take_append, List.drop_append, List.take_of_length_le (by omega : s.length ≤ s.length + i * 64), List.drop_of_length_le (by omega : s.length ≤ s.length + i * 64 + 64)]
    rw [show s.length + i * 64 - s.length = i * 64 by omega, show s.length + i * 64 + 64 - s.length = i * 64 + 64 by omega]
    simp

/-- A disk in memory: block a, its sectors in block g. -/
def DiskAt (w : World) (a g : Nat) (S : List (List UInt8)) (p : Int) : Prop :=
  (∃ dn : Int, w.heap[a]? = some (.cells #[.slice (some ⟨g, 0, none⟩) S.length S.length, .int .i64 p, .int .i64 dn] 60 (0, 0))) ∧ w.heap[g]? = some (.cells (bL S.flatten).toArray 91 (0, 0)) ∧ a ≠ g ∧ (∀ s ∈ S, s.length = 64) ∧ S.length ≤ 4096
theorem disk_x {bs : List Nat} {w w' : World} (hk : KeptX bs w w') {a g : Nat} {S : List (List UInt8)} {p : Int} (h : DiskAt w a g S p) (ha : a ∉ bs) (hg : g ∉ bs) : DiskAt w' a g S p := by
  obtain ⟨⟨dn, h1⟩, h2, h3⟩ := h
  exact ⟨⟨dn, heap_x hk h1 ha⟩, heap_x hk h2 hg, h3⟩
theorem disk_kept {w w' : World} (hk : Kept w w') {a g : Nat} {S : List (List UInt8)} {p : Int} (h : DiskAt w a g S p) : DiskAt w' a g S p := disk_x (bs := []) (xk hk) h (by simp) (by simp)
theorem disk_row {w : World} {a g : Nat} {S : List (List UInt8)} {p : Int} (h : DiskAt w a g S p) {i : Nat} (hi : i < S.length) : rowAt w g (i * 64) 64 = some (bL S[i]) := by
  obtain ⟨_, h2, _, h4, _⟩ := h
  have hl := flat_len S h4
  unfold rowAt
  rw [h2]
  simp only [List.size_toArray, bL_length]
  rw [if_pos (by omega)]
  congr 1
  unfold bL
  rw [← List.map_drop, ← List.map_take, flat_sub S i hi h4]
theorem disk_lt {w : World} {a g : Nat} {S : List (List UInt8)} {p : Int} (h : DiskAt w a g S p) : a < w.heap.size ∧ g < w.heap.size := by
  obtain ⟨⟨dn, h1⟩, h2, _⟩ := h
  exact ⟨(Array.getElem?_eq_some_iff.1 h1).1, (Array.getElem?_eq_some_iff.1 h2).1⟩
theorem disk_cells {w : World} {a g : Nat} {S : List (List UInt8)} {p : Int} (h : DiskAt w a g S p) :
    w.cell? ⟨a, 0, none⟩ = some (.slice (some ⟨g, 0, none⟩) S.length S.length) ∧ w.cell? ⟨a, 1, none⟩ = some (.int .i64 p) ∧ w.frozen? ⟨a, 1, none⟩ = false ∧ w.frozen? ⟨a, 2, none⟩ = false ∧ ∃ dn : Int, w.cell? ⟨a, 2, none⟩ = some (.int .i64 dn) := by
  obtain ⟨⟨dn, h1⟩, _⟩ := h
  exact ⟨cell_of_row w a 0 _ _ _ h1, cell_of_row w a 1 _ _ _ h1, frozen_of_row w a 1 _ _ h1, frozen_of_row w a 2 _ _ h1, dn, cell_of_row w a 2 _ _ _ h1⟩

set_option maxHeartbeats 800000 in
theorem size_any (a g : Nat) (S : List (List UInt8)) (p : Int) (w : World) (h : DiskAt w a g S p) :
    Calls Try.prog 32 #[.pointer (some ⟨a, 0, none⟩)] w fun e w' => e = .returned (.int .i64 S.length) ∧ Kept w w' := by
  obtain ⟨c0, -⟩ := disk_cells h
  go_enter Try.func32, Try.ntmps32
  go_wp2_with fail
  go_ret
  exact ⟨rfl, k0 _⟩

set_option maxHeartbeats 800000 in
theorem read_any (a g : Nat) (S : List (List UInt8)) (p : Int) (i : Nat) (w : World) (h : DiskAt w a g S p) (hi : i < S.length) :
    Calls Try.prog 33 #[.pointer (some ⟨a, 0, none⟩), .int .i64 i] w fun e w' => ∃ v', e = .returned (.tuple #[v', .int .i64 0]) ∧ OwV w' w.heap.size 5 v' (bL S[i]) ∧ Kept w w' := by
  obtain ⟨c0, -⟩ := disk_cells h
  obtain ⟨ha, hg⟩ := disk_lt h
  have r := disk_row h hi
  have hlen : (S[i]).length = 64 := h.2.2.2.1 _ (List.getElem_mem hi)
  have hn := h.2.2.2.2
  have i1 : (i : Int) < (S.length : Int) := by omega
  have Hl := Lib.hid hlen
  clear hlen
  generalize S[i] = s at *
  go_enter Try.func33, Try.ntmps33
  go_wp2_with (at_builtin; refine stop_here ?_)
  refine Stopped.go (wpList_appB rfl (.tmp 21) (.tmp 28) rfl w.heap.size _ _ [] s rfl rfl ?_ ?_ ?_ ?_ ?_)
  · exact owV_made w [] _ 0 rfl (by unfold maxLen; simp)
  · exact elV_kept (ka (k0 _) _) (elV_row r (Nat.le_refl _))
  · rw [Hl.out]; simp
  · simp
  · intro v1 w1 o1 g1
    have q1 := g1 w (ka (k0 _) _) (Nat.le_refl _)
    go_wp2_with fail
    go_ret2
    exact ⟨_, rfl, o1, q1⟩
end Go.Proofs.Ytaifnopoojbcfaa
