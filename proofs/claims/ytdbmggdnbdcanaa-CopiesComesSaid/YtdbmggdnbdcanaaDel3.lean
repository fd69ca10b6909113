/- slices.DeleteFunc with ring.Sorted's predicate: the walk. -/
import Derived.Test.YtdbmggdnbdcanaaDel2
namespace Go.Proofs.Ytdbmggdnbdcanaa
open Go.RowKit
open BigFrame

theorem idxI_spec (x : Id) (l : List Id) : ∀ n i, (idxI x l i n = -1 ∧ ∀ j, i ≤ j → j < i + n → l.getD j 0 ≠ x) ∨ ∃ j : Nat, idxI x l i n = j ∧ i ≤ j ∧ j < i + n ∧ l.getD j 0 = x ∧ ∀ k, i ≤ k → k < j → l.getD k 0 ≠ x
  | 0, i => .inl ⟨rfl, fun j h1 h2 => absurd h2 (by omega)⟩
  | n + 1, i => by
    unfold idxI
    by_cases h : l.getD i 0 = x
    · rw [if_pos (by simpa using h)]
      exact .inr ⟨i, rfl, by omega, by omega, h, fun k h1 h2 => absurd h2 (by omega)⟩
    · rw [if_neg (by simpa using h)]
      rcases idxI_spec x l n (i + 1) with ⟨h1, h2⟩ | ⟨j, h1, h2, h3, h4, h5⟩
      · refine .inl ⟨h1, fun j hj1 hj2 => ?_⟩
        by_cases e : j = i
        · rw [e]; exact h
        · exact h2 j (by omega) (by omega)
      · refine .inr ⟨j, h1, by omega, by omega, h4, fun k hk1 hk2 => ?_⟩
        by_cases e : k = i
        · rw [e]; exact h
        · exact h5 k (by omega) hk2

/-- All but x. -/
def without (x : Id) (l : List Id) : List Id := l.filter (fun y => !(y == x))
theorem filter_take_succ (x : Id) (l : List Id) (j : Nat) (h : j < l.length) : without x (l.take (j + 1)) = without x (l.take j) ++ (if l[j] == x then [] else [l[j]]) := by
  rw [← List.take_append_getElem h, without, List.filter_append]
  congr 1
  by_cases e : l[j] = x <;> simp [e]

theorem without_all (x : Id) (l : List Id) (n : Nat) (h : ∀ j, j < n → l.getD j 0 ≠ x) (hn : n ≤ l.length) : without x (l.take n) = l.take n := by
  rw [without, List.filter_eq_self]
  intro a ha
  obtain ⟨i, hi, rfl⟩ := List.getElem_of_mem ha
  rw [List.length_take] at hi
  have := h i (by omega)
  simpa [List.getD, show i < l.length by omega] using this

set_option maxHeartbeats 6400000 in
theorem del_any (self : Id) (blk B : Nat) (v : Value) (l : List Id) (w : World) (hv : OwnV w B v l) (hblk : blk < B) (hB : B ≤ w.heap.size) (hr : rowAt w blk 0 16 = some (idL self)) (hl : l.length ≤ 4611686018427387904) :
    Calls Try.prog 26 #[v, .func (.func 28) #[] #[.pointer (some ⟨blk, 0, none⟩)]] w fun e w' => ∃ v', e = .returned v' ∧ OwnV w' B v' (without self l) ∧ Below B w w' := by
  have L := index_any self blk v l w (ownV_ids hv) hr (by omega)
  rcases idxI_spec self l l.length 0 with ⟨h1, h2⟩ | ⟨i0, h1, _, h3, h4, h5⟩
  · rw [h1] at L
    have hw : without self l = l := by
      have := without_all self l l.length (fun j hj => h2 j (by omega) (by omega)) (Nat.le_refl _)
      rwa [List.take_length] at this
    rw [hw]
    have L' := Lib.hid L
    clear L h1 h2 hw
    go_enter Try.func26, Try.ntmps26
    go_wp2_with (go_at_call 37; refine L'.out.mono ?_; rintro e w3 ⟨rfl, hq⟩)
    go_ret
    exact ⟨_, rfl, ownV_kept hq hv, hq.mono hB⟩
  · rw [h1] at L
    have hil : i0 < l.length := by omega
    have hl0 : without self (l.take i0) = l.take i0 := without_all self l i0 (fun j hj => h5 j (by omega) hj) (by omega)
    have hl1 : without self (l.take (i0 + 1)) = l.take i0 := by
      have h4' : l[i0] = self := by simpa [List.getD, hil] using h4
      rw [filter_take_succ self l i0 hil, hl0, h4']
      simp
    have L' := Lib.hid L
    clear L h1 hl0
    rcases hv with ⟨rfl, rfl⟩ | ⟨g, cap, rfl, hg, hown⟩
    · cases hil
    have i0i : ((i0 : Int) == -1) = false := by rw [beq_eq_false_iff_ne]; omega
    obtain ⟨res, hres⟩ : ∃ res, without self l = res := ⟨_, rfl⟩
    rw [hres]
    have hres' := Lib.hid hres
    clear hres h4 h5
    go_enter Try.func26, Try.ntmps26
    go_wp2_with (go_at_call 37; refine L'.out.mono ?_; rintro e w3 ⟨rfl, hq⟩)
    have hl1' := Lib.hid hl1
    clear hl1
    go_loopw [5, 6] (fun iv jv wr => ∃ (i j : Nat) (cur : List Id), iv = .int .i64 i ∧ jv = .int .i64 j ∧ i < j ∧ j ≤ l.length ∧ cur.length = l.length ∧ Hid (cur.take i = without self (l.take j)) ∧ Hid (cur.drop j = l.drop j) ∧ Own wr g cap cur ∧ Below B w wr ∧ rowAt wr blk 0 16 = some (idL self)) (fun _ jv _ => l.length - (intOf jv).toNat)
    case atStart => exact ⟨i0, i0 + 1, l, rfl, by simp, by omega, by omega, rfl, hl1'.out.symm, rfl, own_kept hq hown, hq.mono hB, rowAt_below hq hr⟩
    case round =>
      obtain ⟨i, j, cur, rfl, rfl, hij, hjl, hlen, H1, H2, ho, hb, r1⟩ := hrel
      have hic := (own_cap ho).1
      rw [hlen] at hic
      by_cases hlt : j < l.length
      · have e : cur.getD j 0 = l[j] := by
          have h1 : (cur.drop j).head? = (l.drop j).head? := by rw [Hid] at H2; rw [H2]
          rw [List.head?_drop, List.head?_drop] at h1
          simpa [List.getD, hlt] using congrArg (fun o => o.getD 0) h1
        have r2 : rowAt wr g (j * 16) 16 = some (idL l[j]) := by rw [← e]; exact own_row ho (by omega)
        have c1 : canPut wr g (i * 16) 16 = true := own_put ho (by omega)
        have j1 : (j : Int) < (l.length : Int) := by omega
        have j2 : (i : Int) < (l.length : Int) := by omega
        have j3 : i < l.length := by omega
        obtain ⟨cb, hcb⟩ : ∃ cb, (l[j] == self) = cb := ⟨_, rfl⟩
        have L : ∀ W, rowAt W blk 0 16 = some (idL self) → Calls Try.prog 28 #[.agg (idL l[j]).toArray, .pointer (some ⟨blk, 0, none⟩)] W fun e w' => e = .returned (.bool cb) ∧ Kept W w' := fun W hW => by rw [← hcb]; exact isself_any self _ blk W hW
        have L' := Lib.hid L
        have hn : without self (l.take (j + 1)) = without self (l.take j) ++ (if cb = true then [] else [l[j]]) := by rw [filter_take_succ self l j hlt, hcb]
        have hn' := Lib.hid hn
        clear L hcb hn e
        have k1 : Kept wr (wr.alloc (.cells (idL l[j]).toArray 23)) := ka (k0 _) _
        have r3 := rowAt_below k1 r1
        have c2 := canPut_below k1 c1
        have r4 : rowAt (wr.alloc (.cells (idL l[j]).toArray 23)) wr.heap.size 0 16 = some (idL l[j]) := by go_simp
        go_wp2_with (go_at_call 28; refine (L'.out _ r3).mono ?_; rintro e w4 ⟨rfl, hq4⟩; have r5 := rowAt_below hq4 r4; have c5 := canPut_below hq4 c2)
        · have h' : (!cb) = true := by assumption
          have h : cb = false := by simpa using h'
          have k4 : Kept wr w4 := kt k1 hq4
          go_roundw
          case rel =>
            refine ⟨i + 1, j + 1, cur.set i l[j], by simp, by simp, by omega, hlt, by rw [List.length_set, hlen], ?_, ?_, ?_, ?_, ?_⟩
            · have := hn'.out
              rw [h, if_neg (by decide)] at this
              rw [Hid] at H1 ⊢
              rw [this, ← H1, List.take_set, List.take_succ_eq_append_getElem (by omega), List.set_append, if_neg (by rw [List.length_take]; omega)]
              congr 1
              rw [List.length_take, show i - min i cur.length = 0 by omega]
              rfl
            · rw [Hid] at H2 ⊢
              rw [List.drop_set_of_lt (by omega), ← List.drop_drop, H2, List.drop_drop]
            · exact own_set (own_kept k4 ho) (by omega) _
            · exact below_putRow (bl_kept hb hB k4) hg _ _
            · exact row_bl (below_putRow (Below.refl B w4) hg _ _) hblk (rowAt_below k4 r1)
          case measure => simp [intOf]; omega
        · have h' : (!cb) = false := by assumption
          have h : cb = true := by simpa using h'
          have k4 : Kept wr w4 := kt k1 hq4
          go_roundw
          case rel =>
            refine ⟨i, j + 1, cur, rfl, by simp, by omega, hlt, hlen, ?_, ?_, own_kept k4 ho, bl_kept hb hB k4, rowAt_below k4 r1⟩
            · have := hn'.out
              rw [h, if_pos rfl, List.append_nil] at this
              rw [Hid] at H1 ⊢
              rw [this, H1]
            · rw [Hid] at H2 ⊢
              rw [← List.drop_drop, H2, List.drop_drop]
          case measure => simp [intOf]; omega
      · have hjl' : j = l.length := by omega
        subst hjl'
        have j3 : i < l.length := hij
        have ane : ¬ cap = i := by omega
        have aic : i ≤ cap := by omega
        have hfin : cur.take i = res := by
          rw [Hid] at H1
          rw [H1, List.take_length]
          exact hres'.out
        have hfin' := Lib.hid hfin
        clear hfin
        obtain ⟨Z, hcl, hoz⟩ := run_clear_ids g i (l.length - i) (cap - i) cap cur (by omega) ho (by omega)
        have hbz := below_putRow hb hg (i * 16) Z
        go_wp2_with fail
        go_ret
        have hfin := hfin'.out
        have hil2 : i = res.length := by rw [← hfin, List.length_take]; omega
        rw [hfin] at hoz
        refine ⟨_, rfl, .inr ⟨g, cap, ?_, hg, hoz⟩, hbz⟩
        simp [hil2]
end Go.Proofs.Ytdbmggdnbdcanaa
