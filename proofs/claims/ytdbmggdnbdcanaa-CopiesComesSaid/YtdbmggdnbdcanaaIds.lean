/- Slices of identities in memory; the functions that only read them. -/
import Derived.Test.YtdbmggdnbdcanaaId6
namespace Go.Proofs.Ytdbmggdnbdcanaa
open Go.RowKit
open BigFrame

/-- The identities l lie in block b from offset off on. -/
def IdsAt (w : World) (b off : Nat) (l : List Id) : Prop := ∀ i, i < l.length → rowAt w b (off + i * 16) 16 = some (idL (l.getD i 0))
/-- A slice value that holds l. -/
def IdsV (w : World) (v : Value) (l : List Id) : Prop := (∃ ao cap, v = .slice ao 0 cap ∧ (ao = none → cap = 0) ∧ l = []) ∨ ∃ b off cap, v = .slice (some ⟨b, off, none⟩) l.length cap ∧ IdsAt w b off l

theorem idsAt_kept {w w' : World} (hk : Kept w w') {b off : Nat} {l : List Id} (h : IdsAt w b off l) : IdsAt w' b off l := fun i hi => rowAt_below hk (h i hi)
theorem idsV_nil (w : World) : IdsV w (.slice none 0 0) [] := .inl ⟨none, 0, rfl, fun _ => rfl, rfl⟩
theorem idsV_kept {w w' : World} (hk : Kept w w') {v : Value} {l : List Id} (h : IdsV w v l) : IdsV w' v l := by
  rcases h with h | ⟨b, off, cap, h1, h2⟩
  · exact .inl h
  · exact .inr ⟨b, off, cap, h1, idsAt_kept hk h2⟩

theorem take_contains_succ {l : List Id} {i : Nat} {x : Id} (hlt : i < l.length) : (l.take (i + 1)).contains x = ((l.take i).contains x || (l[i] == x)) := by
  rw [← List.take_append_getElem hlt, List.contains_eq_any_beq, List.contains_eq_any_beq, List.any_append]
  simp [Bool.beq_comm]

set_option maxHeartbeats 1600000 in
theorem has_any (v : Value) (l : List Id) (x : Id) (w : World) (hv : IdsV w v l) (hl : l.length ≤ 9223372036854775807) :
    Calls Try.prog 32 #[v, .agg (idL x).toArray] w fun e w' => e = .returned (.bool (l.contains x)) ∧ Kept w w' := by
  rcases hv with ⟨ao, cap, rfl, _, rfl⟩ | ⟨b, off, cap, rfl, hr⟩
  · go_enter Try.func32, Try.ntmps32
    go_wp2_with fail
    refine wp_any_world (fun W => Kept w W) (ka (k0 w) _) ?_
    rintro W q
    go_loopw [5] (fun iv wr => iv = .int .i64 0 ∧ Kept w wr) (fun iv _ => 0)
    case atStart => exact ⟨rfl, q⟩
    case round =>
      obtain ⟨rfl, q⟩ := hrel
      go_wp2_with fail
      go_ret
      exact ⟨rfl, q⟩
  · go_enter Try.func32, Try.ntmps32
    go_wp2_with fail
    refine wp_any_world (fun W => Kept w W ∧ rowAt W w.heap.size 0 16 = some (idL x)) ⟨ka (k0 w) _, by go_simp⟩ ?_
    rintro W ⟨q, r1⟩
    go_loopw [5] (fun iv wr => ∃ i : Nat, i ≤ l.length ∧ iv = .int .i64 i ∧ Hid ((l.take i).contains x = false) ∧ Kept w wr ∧ rowAt wr w.heap.size 0 16 = some (idL x)) (fun iv _ => l.length - (intOf iv).toNat)
    case atStart => exact ⟨0, by omega, rfl, by simp [Hid], q, r1⟩
    case round =>
      obtain ⟨i, hi, rfl, H, q, r1⟩ := hrel
      by_cases hlt : i < l.length
      · have r2 := rowAt_below q (hr i hlt)
        have i1 : (i : Int) < (l.length : Int) := by omega
        go_wp2_with fail
        go_quiet (fail)
        go_wp2_with fail
        · have h : (l[i] == x) = true := by assumption
          go_ret
          refine ⟨?_, kdn q _⟩
          have : l.contains x = true := by
            rw [List.contains_iff_mem]
            rw [beq_iff_eq] at h
            rw [← h]
            exact List.getElem_mem hlt
          rw [this]
          rfl
        · have h : (l[i] == x) = false := by assumption
          go_roundw
          case rel => exact ⟨i + 1, hlt, by simp, by rw [Hid, take_contains_succ hlt, h]; simpa [Hid] using H, kdn q _, by go_simp⟩
          case measure => simp [intOf]; omega
      · go_wp2_with fail
        go_ret
        refine ⟨?_, q⟩
        have : l.take i = l := by rw [List.take_of_length_le]; omega
        rw [Hid, this] at H
        rw [H]
        rfl

end Go.Proofs.Ytdbmggdnbdcanaa
