/- A list cut to a length; an identity of one byte. -/
import Derived.Test.YtdbmggdnbdcanaaRoot
namespace Go.Proofs.Ytdbmggdnbdcanaa
open Go.RowKit
open BigFrame

set_option maxHeartbeats 1600000 in
theorem cut_any (v : Value) (l : List Id) (m : Nat) (w : World) (hv : IdsV w v l) (hm : m ≤ 4000000000) (hlm : ∀ ao n cap, v = .slice ao n cap → n ≤ cap) :
    Calls Try.prog 6 #[v, .int .i64 m] w fun e w' => ∃ v', e = .returned v' ∧ IdsV w' v' (l.take m) ∧ Kept w w' := by
  rcases hv with ⟨ao, cap, rfl, hao, rfl⟩ | ⟨b, off, cap, rfl, hr⟩
  · cases ao with
    | some ad =>
      have m1 : min (0 : Int) (m : Int) = 0 := by omega
      go_enter Try.func6, Try.ntmps6
      go_wp2_with fail
      go_ret
      exact ⟨_, rfl, .inl ⟨some ad, 0, rfl, by simp, by simp⟩, k0 _⟩
    | none =>
    obtain rfl := hao rfl
    have m1 : min (0 : Int) (m : Int) = 0 := by omega
    go_enter Try.func6, Try.ntmps6
    go_wp2_with fail
    go_ret
    exact ⟨_, rfl, by simpa using idsV_nil w, k0 _⟩
  · have hc := hlm _ _ _ rfl
    by_cases hle : l.length ≤ m
    · have m1 : min (l.length : Int) (m : Int) = l.length := by omega
      go_enter Try.func6, Try.ntmps6
      go_wp2_with fail
      go_ret
      rw [List.take_of_length_le hle]
      exact ⟨_, rfl, .inr ⟨b, off, l.length, rfl, hr⟩, k0 _⟩
    · have m1 : min (l.length : Int) (m : Int) = m := by omega
      have m2 : m ≤ cap := by omega
      go_enter Try.func6, Try.ntmps6
      go_wp2_with fail
      go_ret
      refine ⟨_, rfl, .inr ⟨b, off, m, ?_, ?_⟩, k0 _⟩
      · rw [List.length_take, Nat.min_eq_left (by omega)]; rfl
      · intro i hi
        rw [List.length_take] at hi
        rw [hr i (by omega)]
        simp [List.getD, show i < m by omega]

set_option maxHeartbeats 1600000 in
theorem n_any (k : Nat) (x : Id) (w : World) (h : (idL x).toArray = #[.int .u8 0, .int .u8 0, .int .u8 0, .int .u8 0, .int .u8 0, .int .u8 0, .int .u8 0, .int .u8 0, .int .u8 0, .int .u8 0, .int .u8 0, .int .u8 0, .int .u8 0, .int .u8 0, .int .u8 0, .int .u8 k]) :
    Calls Try.prog 17 #[.int .u8 k] w fun e w' => e = .returned (.agg (idL x).toArray) ∧ Kept w w' := by
  have h1 : rowOk #[.int .u8 0, .int .u8 0, .int .u8 0, .int .u8 0, .int .u8 0, .int .u8 0, .int .u8 0, .int .u8 0, .int .u8 0, .int .u8 0, .int .u8 0, .int .u8 0, .int .u8 0, .int .u8 0, .int .u8 0, .int .u8 k] 16 = true := by simp [rowOk, Value.oneCell']
  have h' := Lib.hid h
  clear h
  go_enter Try.func17, Try.ntmps17
  go_wp2_with fail
  rw [← h'.out]
  exact bodyPost_ret (v := .agg (idL x).toArray) (results_row rfl _ _ w.heap.size (idL x) _ 16 rfl (by go_simp) Try.underlying23 rfl (by kernel_rfl)) rfl ⟨rfl, ka (k0 _) _⟩

set_option maxHeartbeats 1600000 in
theorem new_any (w : World) : Calls Try.prog 18 #[] w fun e w' => (∃ b, e = .returned (.pointer (some ⟨b, 0, none⟩))) ∧ Kept w w' := by
  have hmm := @run_makeMap Try.prog
  go_enter Try.func18, Try.ntmps18
  go_wp2_with fail
  go_ret
  exact ⟨⟨_, rfl⟩, ka (ka (k0 _) _) _⟩
end Go.Proofs.Ytdbmggdnbdcanaa
