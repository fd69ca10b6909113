/- What appends make of a disk: it holds the records so far, and one more. Plain. -/
import Derived.Test.YtaifnopoojbcfaaVault8
namespace Go.Proofs.Ytaifnopoojbcfaa
open Go.RowKit

theorem head_zero : headF zsec = (0, 0, 0) := by decide
theorem logOn_zero (N : Nat) (h : 3 ≤ N) : LogOn (List.replicate N zsec) 0 [] := by
  have h0 : (List.replicate N zsec).getD 0 [] = zsec := by simp [List.getD, show 0 < N by omega]
  have h1 : (List.replicate N zsec).getD 1 [] = zsec := by simp [List.getD, show 1 < N by omega]
  have hz : ∀ c ∈ zsec.drop 24, c = 0 := by
    intro c hc
    have := List.mem_of_mem_drop hc
    exact List.eq_of_mem_replicate this
  exact { three := by simpa using h, room := by simp; omega, z0 := by rw [h0]; exact hz, z1 := by rw [h1]; exact hz, sel := by rw [h0, h1, head_zero]; rfl, small := by omega, none := fun _ => rfl, len := fun i hi => by simp at hi, sec := fun i hi => by simp at hi }
theorem getD_set_ne' {S : List (List UInt8)} {i j : Nat} (x : List UInt8) (h : i ≠ j) : (S.set i x).getD j [] = S.getD j [] := by
  simp only [List.getD, List.getElem?_set_ne h]
theorem getD_set_eq' {S : List (List UInt8)} {i : Nat} (x : List UInt8) (h : i < S.length) : (S.set i x).getD i [] = x := by
  simp [List.getD, h]
theorem head_sec {g u n : Nat} (hg : g < 18446744073709551616) (hu : u < 18446744073709551616) (hn : n < 18446744073709551616) : headF (headSec g u n) = (g, u, n) ∧ ∀ c ∈ (headSec g u n).drop 24, c = 0 := by
  have e : headSec g u n = be g 8 ++ (be u 8 ++ (be n 8 ++ List.replicate (64 - (laidB [g, u, n]).length) 0)) := by
    unfold headSec pad laidB
    simp
  rw [laidB_length] at e
  have t1 : ∀ (A B : List UInt8), A.length = 8 → List.take 8 (A ++ B) = A := fun A B h => by rw [← h, List.take_left]
  have d1 : ∀ (A B : List UInt8) (m : Nat), A.length = 8 → List.drop (8 + m) (A ++ B) = List.drop m B := fun A B m h => by rw [← h, List.drop_append]; simp
  constructor
  · unfold headF
    rw [e]
    have a1 : List.drop 8 (be g 8 ++ (be u 8 ++ (be n 8 ++ List.replicate (64 - 8 * [g, u, n].length) 0))) = be u 8 ++ (be n 8 ++ List.replicate (64 - 8 * [g, u, n].length) 0) := d1 _ _ 0 (by simp)
    have a2 : List.drop 16 (be g 8 ++ (be u 8 ++ (be n 8 ++ List.replicate (64 - 8 * [g, u, n].length) 0))) = be n 8 ++ List.replicate (64 - 8 * [g, u, n].length) 0 := by
      rw [show (16 : Nat) = 8 + 8 from rfl, d1 _ _ 8 (by simp)]
      exact d1 _ _ 0 (by simp)
    rw [a1, a2, t1 _ _ (by simp), t1 _ _ (by simp), t1 _ _ (by simp), valB_be8 hg, valB_be8 hu, valB_be8 hn]
  · intro c hc
    rw [e, show (24 : Nat) = 8 + (8 + 8) from rfl, d1 _ _ 16 (by simp), show (16 : Nat) = 8 + 8 from rfl, d1 _ _ 8 (by simp)] at hc
    have a3 : List.drop 8 (be n 8 ++ List.replicate (64 - 8 * [g, u, n].length) 0) = List.replicate (64 - 8 * [g, u, n].length) 0 := d1 _ _ 0 (by simp)
    rw [a3] at hc
    exact List.eq_of_mem_replicate hc
theorem logOn_le {S : List (List UInt8)} {gen : Nat} {recs : List (List UInt8)} (h : LogOn S gen recs) : (headF (S.getD 0 [])).1 ≤ gen ∧ (headF (S.getD 1 [])).1 ≤ gen := by
  have := h.sel
  split at this <;> rename_i hlt
  · have e : (headF (S.getD 1 [])).1 = gen := by rw [this]
    omega
  · have e : (headF (S.getD 0 [])).1 = gen := by rw [this]
    omega
/-- A sector behind the records may hold anything. -/
theorem logOn_junk {S : List (List UInt8)} {gen : Nat} {recs : List (List UInt8)} (h : LogOn S gen recs) (x : List UInt8) : LogOn (S.set (2 + recs.length) x) gen recs where
  three := by simpa using h.three
  room := by simpa using h.room
  z0 := by rw [getD_set_ne' x (by omega)]; exact h.z0
  z1 := by rw [getD_set_ne' x (by omega)]; exact h.z1
  sel := by rw [getD_set_ne' x (by omega), getD_set_ne' x (by omega)]; exact h.sel
  small := h.small
  none := h.none
  len := h.len
  sec := fun i hi => by rw [getD_set_ne' x (by omega)]; exact h.sec i hi
theorem logOn_app {S : List (List UInt8)} {gen : Nat} {recs : List (List UInt8)} (h : LogOn S gen recs) (r : List UInt8) (hr : r.length ≤ 62) (hroom : recs.length + 3 ≤ S.length) (hg : gen < 1000000) (hn : recs.length ≤ 100000) :
    LogOn ((S.set (2 + recs.length) (recSec r)).set ((gen + 1) % 2) (headSec (gen + 1) (recs.length + 1) (recs.length + 1))) (gen + 1) (recs ++ [r]) := by
  obtain ⟨hh, hz⟩ := head_sec (g := gen + 1) (u := recs.length + 1) (n := recs.length + 1) (by omega) (by omega) (by omega)
  obtain ⟨l0, l1⟩ := logOn_le h
  have hS := h.three
  have hm : (gen + 1) % 2 = 0 ∨ (gen + 1) % 2 = 1 := by omega
  have hlen : ∀ i (hi : i < (recs ++ [r]).length), (recs ++ [r])[i].length ≤ 62 := by
    intro i hi
    by_cases hil : i < recs.length
    · rw [List.getElem_append_left hil]; exact h.len i hil
    · rw [List.getElem_append_right (by omega)]; simpa using hr
  have hsec : ∀ i (hi : i < (recs ++ [r]).length), ((S.set (2 + recs.length) (recSec r)).set ((gen + 1) % 2) (headSec (gen + 1) (recs.length + 1) (recs.length + 1))).getD (2 + i) [] = recSec (recs ++ [r])[i] := by
    intro i hi
    rw [getD_set_ne' _ (by omega)]
    by_cases hil : i < recs.length
    · rw [List.getElem_append_left hil, getD_set_ne' _ (by omega)]; exact h.sec i hil
    · have : i = recs.length := by simp at hi; omega
      subst this
      rw [getD_set_eq' _ (by omega), List.getElem_append_right (by omega)]
      simp
  rcases hm with e | e
  · have g0 : ((S.set (2 + recs.length) (recSec r)).set ((gen + 1) % 2) (headSec (gen + 1) (recs.length + 1) (recs.length + 1))).getD 0 [] = headSec (gen + 1) (recs.length + 1) (recs.length + 1) := by rw [e, getD_set_eq' _ (by simp; omega)]
    have g1 : ((S.set (2 + recs.length) (recSec r)).set ((gen + 1) % 2) (headSec (gen + 1) (recs.length + 1) (recs.length + 1))).getD 1 [] = S.getD 1 [] := by rw [e, getD_set_ne' _ (by omega), getD_set_ne' _ (by omega)]
    exact { three := by simpa using hS, room := by simp; omega, z0 := by rw [g0]; exact hz, z1 := by rw [g1]; exact h.z1, sel := by rw [g0, g1, hh, if_neg (show ¬ gen + 1 < (headF (S.getD 1 [])).1 by omega)]; simp, small := by omega, none := fun e => by omega, len := hlen, sec := hsec }
  · have g0 : ((S.set (2 + recs.length) (recSec r)).set ((gen + 1) % 2) (headSec (gen + 1) (recs.length + 1) (recs.length + 1))).getD 0 [] = S.getD 0 [] := by rw [e, getD_set_ne' _ (by omega), getD_set_ne' _ (by omega)]
    have g1 : ((S.set (2 + recs.length) (recSec r)).set ((gen + 1) % 2) (headSec (gen + 1) (recs.length + 1) (recs.length + 1))).getD 1 [] = headSec (gen + 1) (recs.length + 1) (recs.length + 1) := by rw [e, getD_set_eq' _ (by simp; omega)]
    exact { three := by simpa using hS, room := by simp; omega, z0 := by rw [g0]; exact h.z0, z1 := by rw [g1]; exact hz, sel := by rw [g0, g1, hh, if_pos (show (headF (S.getD 0 [])).1 < gen + 1 by omega)]; simp, small := by omega, none := fun e => by omega, len := hlen, sec := hsec }
end Go.Proofs.Ytaifnopoojbcfaa
