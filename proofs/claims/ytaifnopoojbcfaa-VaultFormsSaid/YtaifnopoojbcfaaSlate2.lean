/- slate.laid. -/
import Derived.Test.YtaifnopoojbcfaaSlate1
namespace Go.Proofs.Ytaifnopoojbcfaa
open Go.RowKit
open BigFrame

def laidB (ns : List Nat) : List UInt8 := ns.flatMap fun n => be n 8
theorem laidB_snoc (l : List Nat) (k : Nat) (h : k < l.length) : laidB (l.take (k + 1)) = laidB (l.take k) ++ be l[k] 8 := by
  rw [List.take_succ_eq_append_getElem h]; unfold laidB; rw [List.flatMap_append]; simp
theorem laidB_length (l : List Nat) : (laidB l).length = 8 * l.length := by
  induction l with
  | nil => simp [laidB]
  | cons x r ih =>
    have h3 : laidB (x :: r) = be x 8 ++ laidB r := rfl
    rw [h3, List.length_append, be_length, List.length_cons, ih]; omega
theorem bL_shr8 (n i : Nat) (h : i < 8) : bL [UInt8.ofNat (n / 256 ^ (8 - 1 - i))] = [.int .u8 ((n : Int) / 2 ^ (56 - 8 * i) % 256)] := by
  rw [show 56 - 8 * i = 8 * (8 - 1 - i) by omega]
  exact bL_shr n (8 - 1 - i)

set_option maxHeartbeats 3200000 in
theorem laid_any (v : Value) (ns : List Nat) (w : World) (hv : ElV w v (nL ns)) (hn : ∀ n ∈ ns, n < 18446744073709551616) (hl : ns.length ≤ 4000000000) :
    Calls Try.prog 41 #[v] w fun e w' => ∃ v', e = .returned v' ∧ OwV w' w.heap.size 5 v' (bL (laidB ns)) ∧ Kept w w' := by
  obtain ⟨ao, cap, rfl, hcap, hao⟩ := elV_form hv
  simp only [nL_length] at hcap hv ⊢
  have Hn := Lib.hid hn
  clear hn
  go_enter Try.func41, Try.ntmps41
  go_wp2_with fail
  go_loopw [3, 9] (fun ov iv wr => ∃ i : Nat, i ≤ ns.length ∧ iv = .int .i64 i ∧ OwV wr w.heap.size 5 ov (bL (laidB (ns.take i))) ∧ Kept w wr) (fun _ iv _ => ns.length - (intOf iv).toNat)
  case atStart => exact ⟨0, by omega, rfl, owV_nil _ _ _, k0 _⟩
  case round =>
    obtain ⟨i, hi, rfl, hov, q⟩ := hrel
    by_cases hlt : i < ns.length
    · obtain ⟨b, off, cap', he, _, hr⟩ := elV_at hv (by intro e; rw [← nL_length, e] at hlt; simp at hlt)
      simp only [Value.slice.injEq] at he
      obtain ⟨rfl, -, rfl⟩ := he
      have hc : wr.cell? ⟨b, off + i, none⟩ = some (.int .u64 (ns[i] : Nat)) := by
        have := hr i (by simpa using hlt)
        rw [nL_get ns i hlt] at this
        rw [q.cell (p := ⟨b, off + i, none⟩) (block_lt_of_cell this)]; exact this
      have hb : ns[i] ≤ 18446744073709551615 := by have := Hn.out ns[i] (List.getElem_mem hlt); omega
      have i1 : (i : Int) < (ns.length : Int) := by omega
      have HP := Lib.hid (laidB_snoc ns i hlt)
      have hpl := laidB_length (ns.take i)
      rw [List.length_take, Nat.min_eq_left hi] at hpl
      have HPL := Lib.hid hpl
      clear hr hpl
      generalize ns[i] = n at *
      clear hao hv hb
      go_wp2_with fail
      go_loopw [3, 13] (fun ov jv wi => ∃ j : Nat, j ≤ 8 ∧ jv = .int .i64 j ∧ OwV wi w.heap.size 5 ov (bL (laidB (ns.take i) ++ (be n 8).take j)) ∧ Kept w wi) (fun _ jv _ => 8 - (intOf jv).toNat)
      case atStart => exact ⟨0, by omega, rfl, by simpa using hov, q⟩
      case round =>
        obtain ⟨j, hj, rfl, hoj, qj⟩ := hrel
        by_cases hjk : j < 8
        · have j1 : (j : Int) < 8 := by omega
          go_wp2_with (at_builtin; refine stop_here ?_)
          refine Stopped.go (wpList_appB rfl (.tmp 16) (.tmp 23) rfl w.heap.size _ _ (laidB (ns.take i) ++ (be n 8).take j) [UInt8.ofNat (n / 256 ^ (8 - 1 - j))] rfl rfl ?_ ?_ ?_ ?_ ?_)
          · exact owV_kept (ka (k0 _) _) hoj
          · rw [bL_shr8 n j hjk]; exact elV_made1 _ _ _
          · rw [List.length_append, HPL.out]; simp; omega
          · have := qj.size; simp; omega
          · intro v2 w2 o2 g2
            have q2 := g2 w (ka qj _) (Nat.le_refl _)
            rw [List.append_assoc, ← be_take n 8 j hjk] at o2
            go_wp2_with fail
            go_roundw
            case rel => exact ⟨j + 1, by omega, by go_num, o2, q2⟩
            case measure => simp [intOf]; omega
        · obtain rfl : j = 8 := by omega
          have oj := hoj
          rw [List.take_of_length_le (l := be n 8) (by simp), ← HP.out] at oj
          go_wp2_with fail
          go_roundw
          case rel => exact ⟨i + 1, by omega, by go_num, oj, qj⟩
          case measure => simp [intOf]; omega
    · obtain rfl : i = ns.length := by omega
      have oj := hov
      rw [List.take_of_length_le (Nat.le_refl _)] at oj
      go_wp2_with fail
      go_ret
      exact ⟨_, rfl, oj, q⟩
end Go.Proofs.Ytaifnopoojbcfaa
