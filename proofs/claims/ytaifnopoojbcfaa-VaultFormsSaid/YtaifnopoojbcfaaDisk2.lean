/- disk.New, Power, Write. -/
import Derived.Test.YtaifnopoojbcfaaDisk
import Derived.Laws.CopyOwn
namespace Go.Proofs.Ytaifnopoojbcfaa
open Go.RowKit
open BigFrame

@[go_sem ↓] theorem storeAt_sec (x v : Value) : Instr.storeAt 91 x v = storeRow 91 x v := rfl
@[go_sem] theorem run_store_sec (b o : Nat) (cs : Array Value) (W : World) : (storeRow 91 (.pointer (some ⟨b, o, none⟩)) (.agg cs)).run Try.prog W =
    (if rowOk cs 64 = true then (if canPut W b o 64 = true then .ok () (putRow W b o cs.toList) else (storeRowStuck 91 (.pointer (some ⟨b, o, none⟩)) (.agg cs)).run Try.prog W) else (storeRowStuck 91 (.pointer (some ⟨b, o, none⟩)) (.agg cs)).run Try.prog W) :=
  run_storeRow_of (by kernel_rfl) b o cs W
theorem run_build_sec (W : World) : (Instr.build 91 #[]).run Try.prog W = .ok (.agg (bL zsec).toArray) W := by kernel_rfl
@[go_sem] theorem rowOk_sec : rowOk (bL zsec).toArray 64 = true := rowOk_list (by rw [bL_length, zsec_length]) (bL_one _)

theorem wpList_any_world {P : Program} {ops : Array Oper} {l : List Oper} {Q : Exit → Act → World → Prop} {a : Act} {w : World} (S : World → Prop) (h0 : S w) (h : ∀ W, S W → wpList P ops Q l a W) : wpList P ops Q l a w := h w h0

/-- The walk stands still at a copy. -/
theorem stop_copy {P : Program} {ops : Array Oper} {rest : List Oper} {o : Oper} {a : Act} {Q : Exit → Act → World → Prop} {w : World} (d s : Operand) {dT sT : TypeId}
    (_ho : o.op = .call { callee := .builtin .copy, args := #[d, s], argTypes := #[dT, sT] }) (h : Stopped (wpList P ops Q (o :: rest) a w)) : wpList P ops Q (o :: rest) a w := h
/-- The walk stands still ahead of the operation that fills slot n. -/
theorem stop_slot {P : Program} {ops : Array Oper} {rest : List Oper} {o : Oper} {a : Act} {Q : Exit → Act → World → Prop} {w : World} (n : Nat) (_ho : o.dst = some n) (h : Stopped (wpList P ops Q (o :: rest) a w)) : wpList P ops Q (o :: rest) a w := h
theorem wpList_build_sec {ops : Array Oper} {rest : List Oper} {o : Oper} {a : Act} {Q : Exit → Act → World → Prop} {w : World} (hgd : o.guard = none) (ho : o.op = .build 91 #[])
    (h : wpList Try.prog ops Q rest (a.put o.dst (.agg (bL zsec).toArray)) w) : wpList Try.prog ops Q (o :: rest) a w := by
  refine wpList_plain hgd fun K hK => ?_
  unfold Oper.wp
  simp [execOp, ho, run_build_sec, Result.andThen]
  exact hK _ _ h
theorem xrow {bs : List Nat} {a b : World} (h : KeptX bs a b) {g : Nat} (hg : g ∈ bs) (c : Array Value) : KeptX bs a (b.setRow g c) :=
  ⟨h.os, h.tape, h.output, by simpa [World.setRow] using h.size, fun i hi hb => by rw [setRow_other _ _ _ _ (fun e => hb (by rw [e]; exact hg))]; exact h.block i hi hb⟩
theorem disk_put {w : World} {a g : Nat} {S : List (List UInt8)} {p : Int} (h : DiskAt w a g S p) {i : Nat} (hi : i < S.length) {t : List UInt8} (ht : t.length = 64) : DiskAt (putRow w g (i * 64) (bL t)) a g (S.set i t) p := by
  obtain ⟨⟨dn, h1⟩, h2, h3, h4, h5⟩ := h
  have hl := flat_len S h4
  refine ⟨⟨dn, by rw [heap_putRow_other _ _ _ _ _ h3, List.length_set]; exact h1⟩, ?_, h3, ?_, by simpa using h5⟩
  · obtain ⟨c', g1, g2, g3⟩ := heap_putRow_same (L := bL t) h2 (o := i * 64) (by simp only [List.size_toArray, bL_length]; omega)
    rw [g1]
    congr 2
    apply Array.toList_inj.1
    rw [g3, flat_set S i hi t h4]
    rw [bL_length, ht]
    simp only [bL, List.map_append, List.map_take, List.map_drop]
  · intro s hs
    rcases List.mem_or_eq_of_mem_set hs with h | rfl
    · exact h4 s h
    · exact ht
theorem disk_can {w : World} {a g : Nat} {S : List (List UInt8)} {p : Int} (h : DiskAt w a g S p) {i : Nat} (hi : i < S.length) : canPut w g (i * 64) 64 = true := by
  obtain ⟨_, h2, h3, h4, h5⟩ := h
  have hl := flat_len S h4
  unfold canPut
  rw [h2]
  simp only [List.size_toArray, bL_length, beq_self_eq_true, Bool.and_true, decide_eq_true_eq]
  omega
theorem disk_pow {w : World} {a g : Nat} {S : List (List UInt8)} {p : Int} (h : DiskAt w a g S p) (p' : Int) : DiskAt (w.setCell ⟨a, 1, none⟩ (.int .i64 p')) a g S p' := by
  obtain ⟨⟨dn, h1⟩, h2, h3, h45⟩ := h
  exact ⟨⟨dn, heap_setCell_same w a 1 _ _ _ h1⟩, by rw [Below.heap_setCell _ _ _ _ (Ne.symm h3)]; exact h2, h3, h45⟩
theorem disk_dn {w : World} {a g : Nat} {S : List (List UInt8)} {p : Int} (h : DiskAt w a g S p) (n : Int) : DiskAt (w.setCell ⟨a, 2, none⟩ (.int .i64 n)) a g S p := by
  obtain ⟨⟨dn, h1⟩, h2, h3, h45⟩ := h
  exact ⟨⟨n, heap_setCell_same w a 2 _ _ _ h1⟩, by rw [Below.heap_setCell _ _ _ _ (Ne.symm h3)]; exact h2, h3, h45⟩
/-- The sector into which bytes are copied. -/
theorem disk_row_set {w : World} {a g : Nat} {S : List (List UInt8)} {p : Int} (h : DiskAt w a g S p) {i : Nat} (hi : i < S.length) {t : List UInt8} (ht : t.length = 64) {C : List Value} (hC : C = bL (S.flatten.take (i * 64) ++ t ++ S.flatten.drop (i * 64 + 64))) :
    DiskAt (w.setRow g C.toArray) a g (S.set i t) p := by
  obtain ⟨⟨dn, h1⟩, h2, h3, h4, h5⟩ := h
  subst hC
  refine ⟨⟨dn, by rw [setRow_other _ _ _ _ h3, List.length_set]; exact h1⟩, ?_, h3, ?_, by simpa using h5⟩
  · rw [setRow_heap w g _ _ _ _ h2, flat_set S i hi t h4]
  · intro s hs
    rcases List.mem_or_eq_of_mem_set hs with h | rfl
    · exact h4 s h
    · exact ht

theorem pad_zsec (l : List UInt8) : l ++ zsec.drop l.length = pad l := by
  unfold pad zsec
  rw [List.drop_replicate]
/-- Bytes copied to a sector's head. -/
theorem wpList_copy_sec {ops : Array Oper} {rest : List Oper} {o : Oper} {ac : Act} {Q : Exit → Act → World → Prop} {w : World} (d s : Operand) (hgd : o.guard = none)
    (ho : o.op = .call { callee := .builtin .copy, args := #[d, s], argTypes := #[26, 26] }) {a g : Nat} {S : List (List UInt8)} {p : Int} (h : DiskAt w a g S p) {i : Nat} (hi : i < S.length)
    {z : List UInt8} (_hz : z.length = 64) {v : Value} {l : List UInt8} (hv : ElV w v (bL l)) (hl : l.length ≤ 64) (hd : ac.eval d = .slice (some ⟨g, i * 64, none⟩) 64 64) (hs : ac.eval s = v)
    (hQ : ∀ w', DiskAt w' a g (S.set i (l ++ S[i].drop l.length)) p → KeptX [a, g] w w' → wpList Try.prog ops Q rest (ac.put o.dst (goInt l.length)) w') : wpList Try.prog ops Q (o :: rest) ac w := by
  have hlen : (S[i]).length = 64 := h.2.2.2.1 _ (List.getElem_mem hi)
  rcases hv with ⟨ao, cap, rfl, hao, hnil⟩ | ⟨b, off, cap, rfl, hlc, hr⟩
  · have hl0 : l = [] := by simpa [bL] using hnil
    subst hl0
    refine wpList_copy_nothing hgd d s _ _ ho 5 Try.underlying26 (by kernel_rfl) _ _ 64 64 0 cap hd hs (by simp) ?_
    refine hQ w ?_ (x0 _ _)
    simpa using h
  · have hfl := flat_len S h.2.2.2.1
    obtain ⟨⟨dn, h1⟩, h2, h3, h4, h5⟩ := h
    have hfit : i * 64 + (bL l).length ≤ (bL S.flatten).toArray.size := by simp only [List.size_toArray, bL_length]; omega
    refine wpList_copy_own hgd d s _ _ ho 5 Try.underlying26 (by kernel_rfl) g (i * 64) 64 64 ⟨b, off, none⟩ _ cap hd hs _ _ h2 (bL l) (by simp only [bL_length]; exact (Nat.min_eq_left hl).symm) (fun j u hu => by rw [Addr.add_lit]; exact hr j u hu) hfit (bL_one l) ?_
    rw [show goInt ((bL l).length : Nat) = goInt (l.length : Nat) by rw [bL_length]]
    refine hQ _ (disk_row_set ⟨⟨dn, h1⟩, h2, h3, h4, h5⟩ hi (by simp [hlen]; omega) ?_) (xrow (x0 _ _) (by simp) _)
    have hsub := flat_sub S i hi h4
    rw [← hsub, List.drop_take, List.drop_drop]
    have e : (S.flatten.drop (i * 64 + l.length)).take (64 - l.length) ++ S.flatten.drop (i * 64 + 64) = S.flatten.drop (i * 64 + l.length) := by
      rw [show i * 64 + 64 = (i * 64 + l.length) + (64 - l.length) by omega]
      have := List.take_append_drop (64 - l.length) (S.flatten.drop (i * 64 + l.length))
      rwa [List.drop_drop] at this
    rw [List.append_assoc, List.append_assoc, e]
    simp only [bL, List.map_append, List.map_take, List.map_drop, List.length_map]

set_option maxHeartbeats 800000 in
theorem write_down (a g : Nat) (S : List (List UInt8)) (i : Nat) (v : Value) (l : List UInt8) (w : World) (h : DiskAt w a g S 0) (hi : i < S.length) (hv : ElV w v (bL l)) (hl : l.length ≤ 64) :
    Calls Try.prog 40 #[.pointer (some ⟨a, 0, none⟩), .int .i64 i, v] w fun e w' => e = .returned (.int .i64 8) ∧ Kept w w' := by
  obtain ⟨c0, c1, -⟩ := disk_cells h
  obtain ⟨ao, cap, rfl, -, -⟩ := elV_form hv
  simp only [bL_length] at hv ⊢
  have hn := h.2.2.2.2
  have i1 : (i : Int) < (S.length : Int) := by omega
  have l1 : (l.length : Int) ≤ 64 := by omega
  go_enter Try.func40, Try.ntmps40
  go_wp2_with fail
  go_ret
  exact ⟨rfl, k0 _⟩

set_option maxHeartbeats 400000 in
theorem write_ok (a g : Nat) (S : List (List UInt8)) (p : Int) (i : Nat) (v : Value) (l : List UInt8) (w : World) (h : DiskAt w a g S p) (hi : i < S.length) (hv : ElV w v (bL l)) (hl : l.length ≤ 64) (hp : p ≠ 0)
    (hp1 : -1 ≤ p) (hp2 : p ≤ 1000000) (hoff : ∀ k, v.ownBlock = some k → k ∉ [a, g]) :
    Calls Try.prog 40 #[.pointer (some ⟨a, 0, none⟩), .int .i64 i, v] w fun e w' => e = .returned (.int .i64 0) ∧ DiskAt w' a g (S.set i (pad l)) (if 0 < p then p - 1 else p) ∧ KeptX [a, g] w w' := by
  obtain ⟨c0, c1, f1, f2, dn, c2⟩ := disk_cells h
  obtain ⟨hag, hgg⟩ := disk_lt h
  obtain ⟨ao, cap, rfl, -, -⟩ := elV_form hv
  simp only [bL_length] at hv hoff ⊢
  have hn := h.2.2.2.2
  have i1 : (i : Int) < (S.length : Int) := by omega
  have l1 : (l.length : Int) ≤ 64 := by omega
  have p0 : (p == 0) = false := by simpa using hp
  have hc := disk_can h hi
  have hne := Ne.symm h.2.2.1
  have Hoff := Lib.hid hoff
  clear hoff
  by_cases hpos : 0 < p
  · rw [if_pos hpos]
    go_enter Try.func40, Try.ntmps40
    go_wp2_with (with_reducible refine stop_slot 51 rfl ?_)
    refine Stopped.go (wpList_build_sec rfl rfl ?_)
    go_wp2_with (with_reducible refine stop_slot 56 rfl ?_)
    refine Stopped.go (wpList_any_world (fun W => DiskAt W a g (S.set i zsec) (p - 1) ∧ KeptX [a, g] w W) ⟨disk_put (disk_pow h _) hi zsec_length, xput (xset (x0 _ _) (by simp) _) (by simp) _ _⟩ ?_)
    rintro W ⟨hD, hX⟩
    have hv2 := elV_x hX hv Hoff.out
    obtain ⟨c0, c1, f1, f2, dn, c2⟩ := disk_cells hD
    rw [List.length_set] at c0
    obtain ⟨hag, hgg⟩ := disk_lt hD
    go_wp2_with (with_reducible refine stop_copy (.tmp 59) (.tmp 60) rfl ?_)
    refine Stopped.go (wpList_copy_sec (.tmp 59) (.tmp 60) rfl rfl hD (by simpa using hi) zsec_length hv2 hl rfl rfl ?_)
    intro W2 hD2 hX2
    rw [List.set_set, List.getElem_set_self, pad_zsec] at hD2
    obtain ⟨c0, c1, f1, f2, dn2, c2⟩ := disk_cells hD2
    go_wp2_with fail
    go_ret
    exact ⟨rfl, disk_dn hD2 _, xset (xt hX hX2) (by simp) _⟩
  · rw [if_neg hpos]
    go_enter Try.func40, Try.ntmps40
    go_wp2_with (with_reducible refine stop_slot 51 rfl ?_)
    refine Stopped.go (wpList_build_sec rfl rfl ?_)
    go_wp2_with (with_reducible refine stop_slot 56 rfl ?_)
    refine Stopped.go (wpList_any_world (fun W => DiskAt W a g (S.set i zsec) p ∧ KeptX [a, g] w W) ⟨disk_put h hi zsec_length, xput (x0 _ _) (by simp) _ _⟩ ?_)
    rintro W ⟨hD, hX⟩
    have hv2 := elV_x hX hv Hoff.out
    obtain ⟨c0, c1, f1, f2, dn, c2⟩ := disk_cells hD
    rw [List.length_set] at c0
    obtain ⟨hag, hgg⟩ := disk_lt hD
    go_wp2_with (with_reducible refine stop_copy (.tmp 59) (.tmp 60) rfl ?_)
    refine Stopped.go (wpList_copy_sec (.tmp 59) (.tmp 60) rfl rfl hD (by simpa using hi) zsec_length hv2 hl rfl rfl ?_)
    intro W2 hD2 hX2
    rw [List.set_set, List.getElem_set_self, pad_zsec] at hD2
    obtain ⟨c0, c1, f1, f2, dn2, c2⟩ := disk_cells hD2
    go_wp2_with fail
    go_ret
    exact ⟨rfl, disk_dn hD2 _, xset (xt hX hX2) (by simp) _⟩
end Go.Proofs.Ytaifnopoojbcfaa
