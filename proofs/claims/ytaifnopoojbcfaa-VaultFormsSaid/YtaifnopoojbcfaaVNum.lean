/- Numbers laid in bytes: wire.PutNum. -/
import Derived.Test.YtaifnopoojbcfaaIV
import Derived.Test.YtaifnopoojbcfaaBytes
namespace Go.Proofs.Ytaifnopoojbcfaa
open Go.RowKit
open BigFrame

theorem info_u8 : (Try.prog.info? 5).map (fun i => (i.zero, i.size, i.bytes)) = some (some (.int .u8 0), 1, 1) := by kernel_rfl
theorem wpList_appB {w : World} {ops : Array Oper} {rest : List Oper} {o : Oper} {a : Act} {Q : Exit → Act → World → Prop} (hgd : o.guard = none) (s x : Operand)
    (ho : o.op = .call { callee := .builtin .append, args := #[s, x], argTypes := #[26, 26] })
    (base : Nat) (v src : Value) (l m : List UInt8) (hs : a.eval s = v) (hx : a.eval x = src) (hown : OwV w base 5 v (bL l)) (hsrc : ElV w src (bL m))
    (hlen : l.length + m.length ≤ 140737488355328) (hbase : base ≤ w.heap.size)
    (h : ∀ v' w', OwV w' base 5 v' (bL (l ++ m)) → (∀ w0, Kept w0 w → w0.heap.size ≤ base → Kept w0 w') → wpList Try.prog ops Q rest (a.put o.dst v') w') : wpList Try.prog ops Q (o :: rest) a w :=
  wpList_appE Try.underlying26 info_u8 rfl hgd s x ho base v src (bL l) (bL m) hs hx hown hsrc (bL_one m) (by unfold maxLen; simp; omega) (by simp; omega) hbase
    fun v' w' h1 h2 => h v' w' (by rw [bL_append]; exact h1) h2

theorem shr_eq (n k : Nat) : (n : Int) / 2 ^ (8 * k) = ((n / 256 ^ k : Nat) : Int) := by
  rw [show (256 : Nat) ^ k = 2 ^ (8 * k) by rw [Nat.pow_mul]]
  simp
theorem shr_zero {n k : Nat} (h : n / 256 ^ k = 0) : (n : Int) / 2 ^ (8 * k) ≤ 0 := by rw [shr_eq, h]; exact Int.le_refl _
theorem shr_pos {n k : Nat} (h : n / 256 ^ k ≠ 0) : 0 < (n : Int) / 2 ^ (8 * k) := by rw [shr_eq]; exact Int.ofNat_lt.2 (Nat.pos_of_ne_zero h)
theorem bL_shr (n m : Nat) : bL [UInt8.ofNat (n / 256 ^ m)] = [.int .u8 ((n : Int) / 2 ^ (8 * m) % 256)] := by
  rw [bL_one_mod, shr_eq]; rfl
theorem num1_snoc (n k j : Nat) (h : j < k) : UInt8.ofNat k :: (be n k).take (j + 1) = (UInt8.ofNat k :: (be n k).take j) ++ [UInt8.ofNat (n / 256 ^ (k - 1 - j))] := by
  rw [be_take _ _ _ h]; rfl

set_option maxHeartbeats 3200000 in
theorem putnum_any (v : Value) (ns : List Nat) (w : World) (hv : ElV w v (nL ns)) (hn : ∀ n ∈ ns, n < 18446744073709551616) (hl : ns.length ≤ 4000000000) :
    Calls Try.prog 19 #[v] w fun e w' => ∃ v', e = .returned v' ∧ OwV w' w.heap.size 5 v' (bL (putNums ns)) ∧ Kept w w' := by
  obtain ⟨ao, cap, rfl, hcap, hao⟩ := elV_form hv
  simp only [nL_length] at hcap hv ⊢
  have Hn := Lib.hid hn
  clear hn
  go_enter Try.func19, Try.ntmps19
  go_wp2_with fail
  go_loopw [3, 10] (fun ov iv wr => ∃ i : Nat, i ≤ ns.length ∧ iv = .int .i64 i ∧ OwV wr w.heap.size 5 ov (bL (putNums (ns.take i))) ∧ Kept w wr) (fun _ iv _ => ns.length - (intOf iv).toNat)
  case atStart => exact ⟨0, by omega, rfl, owV_nil _ _ _, k0 _⟩
  case round =>
    obtain ⟨i, hi, rfl, hov, q⟩ := hrel
    by_cases hlt : i < ns.length
    · obtain ⟨b, off, cap', he, _, hr⟩ := elV_at hv (by intro e; rw [← nL_length, e] at hlt; simp at hlt)
      simp only [Value.slice.injEq] at he
      obtain ⟨rfl, -, rfl⟩ := he
      have hc : wr.cell? ⟨b, off + i, none⟩ = some (.int .u64 (ns[i] : Nat)) := by
        have := hr i (by simpa using hlt)
        rw [nL_get ns i hlt] at this
        rw [q.cell (p := ⟨b, off + i, none⟩) (block_lt_of_cell this)]; exact this
      have hb : ns[i] ≤ 18446744073709551615 := by have := Hn.out ns[i] (List.getElem_mem hlt); omega
      have hps := putNums_snoc ns i hlt
      have i1 : (i : Int) < (ns.length : Int) := by omega
      have HP := Lib.hid hps
      have hpl := putNums_length (ns.take i) fun n hn => Hn.out n (List.mem_of_mem_take hn)
      rw [List.length_take, Nat.min_eq_left hi] at hpl
      clear hps hr
      generalize ns[i] = n at *
      have HB := Lib.hid hb
      clear hao hv
      have hw8 := wideN_le (n := n) (by omega)
      have HM : Hid (num1 n = UInt8.ofNat (wideN n) :: be n (wideN n)) := Lib.hid rfl
      have HS : Hid (∀ k, n / 256 ^ k = 0 ↔ wideN n ≤ k) := Lib.hid (wideN_div n)
      clear hb
      generalize wideN n = m at *
      go_wp2_with fail
      go_loop [6] (fun wv => ∃ k : Nat, k ≤ m ∧ wv = .int .i64 k) (fun wv => m - (intOf wv).toNat)
      case atStart => exact ⟨0, by omega, rfl⟩
      case round =>
        obtain ⟨k, hk, rfl⟩ := hrel
        by_cases hkw : k < m
        · have k8 : (k : Int) < 8 := by omega
          have hs := shr_pos (n := n) (k := k) (by rw [Ne, HS.out]; omega)
          go_wp2_with fail
          go_round
          case rel => exact ⟨k + 1, by omega, by go_num⟩
          case measure => simp [intOf]; omega
        · obtain rfl : k = m := by omega
          have hs := shr_zero (n := n) (k := k) (by rw [HS.out]; omega)
          by_cases k8 : k < 8
          all_goals
            go_wp2_with (at_builtin; refine stop_here ?_)
            refine Stopped.go (wpList_appB rfl (.tmp 25) (.tmp 28) rfl w.heap.size _ _ (putNums (ns.take i)) [UInt8.ofNat k] rfl rfl ?_ ?_ ?_ ?_ ?_)
            · exact owV_kept (ka (k0 _) _) hov
            · rw [bL_one_of (by omega)]; exact elV_made1 _ _ _
            · simp; omega
            · have := q.size; simp; omega
            · intro v1 w1 o1 g1
              have q1 := g1 w (ka q _) (Nat.le_refl _)
              go_wp2_with fail
              go_loopw [3, 31] (fun ov jv wi => ∃ j : Nat, j ≤ k ∧ jv = .int .i64 j ∧ OwV wi w.heap.size 5 ov (bL (putNums (ns.take i) ++ (UInt8.ofNat k :: (be n k).take j))) ∧ Kept w wi) (fun _ jv _ => k - (intOf jv).toNat)
              case atStart => exact ⟨0, by omega, rfl, o1, q1⟩
              case round =>
                obtain ⟨j, hj, rfl, hoj, qj⟩ := hrel
                by_cases hjk : j < k
                · have j1 : (j : Int) < (k : Int) := by omega
                  go_wp2_with (at_builtin; refine stop_here ?_)
                  refine Stopped.go (wpList_appB rfl (.tmp 34) (.tmp 43) rfl w.heap.size _ _ (putNums (ns.take i) ++ (UInt8.ofNat k :: (be n k).take j)) [UInt8.ofNat (n / 256 ^ (k - 1 - j))] rfl rfl ?_ ?_ ?_ ?_ ?_)
                  · exact owV_kept (ka (k0 _) _) hoj
                  · rw [bL_shr]; exact elV_made1 _ _ _
                  · simp; omega
                  · have := qj.size; simp; omega
                  · intro v2 w2 o2 g2
                    have q2 := g2 w (ka qj _) (Nat.le_refl _)
                    rw [List.append_assoc, ← num1_snoc n k j hjk] at o2
                    go_wp2_with fail
                    go_roundw
                    case rel => exact ⟨j + 1, by omega, by go_num, o2, q2⟩
                    case measure => simp [intOf]; omega
                · obtain rfl : j = k := by omega
                  have oj := hoj
                  rw [List.take_of_length_le (l := be n j) (by simp), ← HM.out, ← HP.out] at oj
                  go_wp2_with fail
                  go_roundw
                  case rel => exact ⟨i + 1, by omega, by go_num, oj, qj⟩
                  case measure => simp [intOf]; omega
    · obtain rfl : i = ns.length := by omega
      have oj := hov
      rw [List.take_of_length_le (Nat.le_refl _)] at oj
      go_wp2_with fail
      go_ret
      exact ⟨_, rfl, oj, q⟩
end Go.Proofs.Ytaifnopoojbcfaa
