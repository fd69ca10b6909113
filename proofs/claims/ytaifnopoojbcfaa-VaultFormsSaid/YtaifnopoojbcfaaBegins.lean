/- VaultBegins: the walk. -/
import Derived.Test.YtaifnopoojbcfaaVFixed
namespace Go.Proofs.Ytaifnopoojbcfaa
open Go.RowKit
open BigFrame

/-- The first j beginnings. -/
def begs (j : Nat) : List Rec := (List.range j).map fun i => Rec.beg (i + 1)
theorem begs_length (j : Nat) : (begs j).length = j := by simp [begs]
theorem begs_get (j i : Nat) (h : i < j) : (begs j)[i]? = some (.beg (i + 1)) := by simp [begs, h]
theorem begs_inc (j : Nat) : ∀ i, i ≤ j → incTo (begs j) i = i
  | 0, _ => rfl
  | i + 1, h => by
    unfold incTo
    rw [begs_get j i (by omega)]
theorem begs_it (j : Nat) : ∀ i, i ≤ j → itTo (begs j) i = none
  | 0, _ => rfl
  | i + 1, h => by
    unfold itTo
    rw [begs_get j i (by omega)]
    exact begs_it j i (by omega)
theorem begs_ok (j : Nat) (hj : j < 250) : ∀ i, i < (begs j).length → RecOk (begs j) i := by
  intro i hi
  rw [begs_length] at hi
  unfold RecOk
  rw [begs_get j i hi, begs_inc j i (by omega)]
  show i < i + 1 ∧ i + 1 < 256
  omega
theorem begs_succ (j : Nat) : (begs (j + 1)).map recB = (begs j).map recB ++ [recB (.beg (j + 1))] := by
  simp [begs, List.range_succ]

/-- What an opening leaves of a disk that holds j beginnings. -/
theorem open_begs (a g : Nat) (S : List (List UInt8)) (p : Int) (gen j : Nat) (w : World) (hd : DiskAt w a g S p) (hL : LogOn S gen ((begs j).map recB)) (hj : j ≤ 100) (hroom : S.length = 120) (hg : gen ≤ 100) (hp1 : -1 ≤ p) (hp2 : p ≤ 1000) :
    Calls Try.prog 12 #[.pointer (some ⟨a, 0, none⟩)] w fun e w' => KeptX [a, g] w w' ∧
      (((p = 0 ∨ p = 1) ∧ e = .returned (.tuple #[.pointer none, .int .i64 8]) ∧ ∃ S', DiskAt w' a g S' 0 ∧ LogOn S' gen ((begs j).map recB) ∧ S'.length = 120) ∨
       (p ≠ 0 ∧ p ≠ 1 ∧ ∃ vb lb mb S' p', e = .returned (.tuple #[.pointer (some ⟨vb, 0, none⟩), .int .i64 0]) ∧ VaultAt w' vb lb mb (j + 1) ∧ DiskAt w' a g S' p' ∧ LogOn S' (gen + 1) ((begs (j + 1)).map recB) ∧ S'.length = 120)) := by
  refine (vopen_any a g S p gen (begs j) w hd hL (begs_ok j (by omega)) (by rw [begs_length]; omega) (by rw [begs_length, begs_inc j j (Nat.le_refl _)]; omega) hp1 hp2).mono ?_
  intro e w' h
  unfold OpenPost at h
  rw [begs_length, begs_inc j j (Nat.le_refl _)] at h
  rcases h with ⟨hp, he, hD, hx⟩ | ⟨h0, h1, vb, lb, mb, base, he, _, _, _, _, _, _, _, _, _, _, hV, _, _, hD, hx⟩
  · refine ⟨hx, .inl ⟨hp, he, ?_⟩⟩
    rcases hD with hD | hD
    · exact ⟨S, hD, hL, hroom⟩
    · have := logOn_junk hL (recSec (recB (.beg (j + 1))))
      rw [List.length_map, begs_length] at this
      exact ⟨_, hD, this, by simpa using hroom⟩
  · have happ := logOn_app hL (recB (.beg (j + 1))) (by simp only [recB]; rw [begin_rec (by omega) (by omega)]; simp) (by rw [List.length_map, begs_length]; omega) (by omega) (by rw [List.length_map, begs_length]; omega)
    rw [List.length_map, begs_length, ← begs_succ] at happ
    exact ⟨hx, .inr ⟨h0, h1, vb, lb, mb, _, _, he, hV, hD, happ, by simpa using hroom⟩⟩

theorem four_way (z : Int) : ∃ q : Int, wrap64 ((IntKind.u64.wrap z).tmod 4) = q ∧ 0 ≤ q ∧ q ≤ 3 := by
  have h0 : 0 ≤ IntKind.u64.wrap z := by rw [IntKind.wrap_u64]; omega
  generalize IntKind.u64.wrap z = u at *
  refine ⟨_, rfl, ?_⟩
  rw [Int.tmod_eq_emod_of_nonneg h0]
  unfold wrap64
  omega
/-- A slice of integers. -/
def iL (zs : List Int) : List Value := zs.map (Value.int .i64)

set_option maxRecDepth 100000 in
set_option maxHeartbeats 3200000 in
theorem begins_any (v : Value) (zs : List Int) (w : World) (hv : ElV w v (iL zs)) (hl : zs.length ≤ 9223372036854775807) :
    Calls Try.prog 4 #[v] w fun e w' => e = .returned (.bool true) ∧ Kept w w' := by
  obtain ⟨ao, cap, rfl, hcap, -⟩ := elV_form hv
  have hil : (iL zs).length = zs.length := by simp [iL]
  rw [hil] at hcap hv ⊢
  have HIL := Lib.hid hil
  clear hil
  go_enter Try.func4, Try.ntmps4
  go_wp2_with fail
  refine (dnew_any 120 _ (by omega)).mono ?_
  rintro e w1 ⟨a, g, rfl, ha, hg, hD1, q1⟩
  go_wp2_with fail
  refine (fixed_any _).mono ?_
  rintro e w2 ⟨rfl, q2⟩
  have hD2 := disk_kept q2 hD1
  have q12 := kt q1 q2
  go_wp2_with fail
  go_loopw [4, 20] (fun lv iv wr => ∃ (i j gen : Nat) (S : List (List UInt8)) (p : Int), i ≤ zs.length ∧ i ≤ 41 ∧ j ≤ i ∧ gen ≤ i ∧ iv = .int .i64 i ∧ lv = .int .i64 j ∧ DiskAt wr a g S p ∧ LogOn S gen ((begs j).map recB) ∧ S.length = 120 ∧ KeptX [a, g] w wr) (fun _ iv _ => zs.length - (intOf iv).toNat)
  case atStart => exact ⟨0, 0, 0, _, _, by omega, by omega, by omega, by omega, rfl, rfl, hD2, logOn_zero 120 (by omega), by simp, xk q12⟩
  case round =>
    obtain ⟨i, j, gen, S, p, hi, hi41, hj, hgen, rfl, rfl, hD, hLg, hS, hX⟩ := hrel
    by_cases hgo : i < zs.length ∧ i ≤ 40
    · obtain ⟨hlt, hle⟩ := hgo
      have i1 : (i : Int) < (zs.length : Int) := by omega
      have i2 : (i : Int) ≤ 40 := by omega
      obtain ⟨b, off, bc, he, _, hcell⟩ := elV_at hv (by intro e; have := HIL.out; rw [e] at this; simp at this; omega)
      simp only [Value.slice.injEq] at he
      obtain ⟨rfl, -, rfl⟩ := he
      have hc : w.cell? ⟨b, off + i, none⟩ = some (.int .i64 zs[i]) := by
        rw [hcell i (by rw [HIL.out]; exact hlt)]
        simp [iL, hlt]
      have hblt := block_lt_of_cell hc
      have hcr : wr.cell? ⟨b, off + i, none⟩ = some (.int .i64 zs[i]) := cell_x hX hc (by show b ∉ [a, g]; intro hk; simp at hk; have : b < w.heap.size := hblt; omega)
      generalize zs[i] = z at *
      clear hcell hc
      go_wp2_with fail
      obtain ⟨q, hq, hq0, hq3⟩ := four_way z
      rw [hq]
      refine (power_any a g S p q _ hD).mono ?_
      rintro e w3 ⟨rfl, hD3, x3⟩
      have hX3 := xt hX x3
      rw [show max q (-1) = q by omega] at hD3
      have HQ := Lib.hid hq
      clear hq hcr hD
      go_wp2_with fail
      refine (open_begs a g S q gen j _ hD3 hLg (by omega) hS (by omega) (by omega) (by omega)).mono ?_
      rintro e w4 ⟨x4, ⟨hp, rfl, S', hD4, hL4, hS4⟩ | ⟨hp0, hp1, vb, lb, mb, S', p', rfl, hV4, hD4, hL4, hS4⟩⟩
      · have hX4 := xt hX3 x4
        go_wp2_with fail
        go_roundw
        case rel => exact ⟨i + 1, j, gen, S', 0, by omega, by omega, by omega, by omega, by go_num, rfl, hD4, hL4, hS4, hX4⟩
        case measure => simp [intOf]; omega
      · have hX4 := xt hX3 x4
        have hjj : ¬ ((j : Int) + 1 ≤ (j : Int)) := by omega
        go_wp2_with fail
        refine (inc_any vb lb mb (j + 1) _ hV4).mono ?_
        rintro e w5 ⟨rfl, q5⟩
        go_wp2_with fail
        refine (inc_any vb lb mb (j + 1) _ (vault_kept q5 hV4)).mono ?_
        rintro e w6 ⟨rfl, q6⟩
        have q56 := kt q5 q6
        go_wp2_with fail
        go_roundw
        case rel => exact ⟨i + 1, j + 1, gen + 1, S', p', by omega, by omega, by omega, by omega, by go_num, rfl, disk_kept q56 hD4, hL4, hS4, xt hX4 (xk q56)⟩
        case measure => simp [intOf]; omega
    · by_cases hlt : i < zs.length
      · have i1 : (i : Int) < (zs.length : Int) := by omega
        have i2 : (40 : Int) < (i : Int) := by omega
        obtain ⟨b, off, bc, he, _, hcell⟩ := elV_at hv (by intro e; have := HIL.out; rw [e] at this; simp at this; omega)
        simp only [Value.slice.injEq] at he
        obtain ⟨rfl, -, rfl⟩ := he
        have hc : w.cell? ⟨b, off + i, none⟩ = some (.int .i64 zs[i]) := by
          rw [hcell i (by rw [HIL.out]; exact hlt)]
          simp [iL, hlt]
        have hblt := block_lt_of_cell hc
        have hcr : wr.cell? ⟨b, off + i, none⟩ = some (.int .i64 zs[i]) := cell_x hX hc (by show b ∉ [a, g]; intro hk; simp at hk; have : b < w.heap.size := hblt; omega)
        generalize zs[i] = z at *
        clear hcell hc
        go_wp2_with fail
        refine (power_any a g S p (-1) _ hD).mono ?_
        rintro e w3 ⟨rfl, hD3, x3⟩
        have hX3 := xt hX x3
        rw [show max (-1 : Int) (-1) = -1 from rfl] at hD3
        go_wp2_with fail
        refine (open_begs a g S (-1) gen j _ hD3 hLg (by omega) hS (by omega) (by omega) (by omega)).mono ?_
        rintro e w4 ⟨x4, ⟨hp, _⟩ | ⟨_, _, vb, lb, mb, S', p', rfl, hV4, hD4, hL4, hS4⟩⟩
        · omega
        · have hX4 := xt hX3 x4
          go_wp2_with fail
          refine (inc_any vb lb mb (j + 1) _ hV4).mono ?_
          rintro e w5 ⟨rfl, q5⟩
          go_wp2_with fail
          go_ret
          refine ⟨?_, xkept (xt hX4 (xk q5)) (by intro k hk; simp at hk; omega)⟩
          have hjj : decide ((j : Int) < (j : Int) + 1) = true := by simp; omega
          simp [hjj]
      · have i1 : (zs.length : Int) ≤ (i : Int) := by omega
        go_wp2_with fail
        refine (power_any a g S p (-1) _ hD).mono ?_
        rintro e w3 ⟨rfl, hD3, x3⟩
        have hX3 := xt hX x3
        rw [show max (-1 : Int) (-1) = -1 from rfl] at hD3
        go_wp2_with fail
        refine (open_begs a g S (-1) gen j _ hD3 hLg (by omega) hS (by omega) (by omega) (by omega)).mono ?_
        rintro e w4 ⟨x4, ⟨hp, _⟩ | ⟨_, _, vb, lb, mb, S', p', rfl, hV4, hD4, hL4, hS4⟩⟩
        · omega
        · have hX4 := xt hX3 x4
          go_wp2_with fail
          refine (inc_any vb lb mb (j + 1) _ hV4).mono ?_
          rintro e w5 ⟨rfl, q5⟩
          go_wp2_with fail
          go_ret
          refine ⟨?_, xkept (xt hX4 (xk q5)) (by intro k hk; simp at hk; omega)⟩
          have hjj : decide ((j : Int) < (j : Int) + 1) = true := by simp; omega
          simp [hjj]
end Go.Proofs.Ytaifnopoojbcfaa
