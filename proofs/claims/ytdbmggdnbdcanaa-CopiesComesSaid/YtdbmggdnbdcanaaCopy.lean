/- Lists copied. -/
import Derived.Test.YtdbmggdnbdcanaaOwn
import Derived.Lib.SliceRun
namespace Go.Proofs.Ytdbmggdnbdcanaa
open Go.RowKit
open BigFrame

theorem ownV_made0 (w : World) (base : Nat) (hb : base ≤ w.heap.size) : OwnV (w.alloc (.cells #[] 23)) base (.slice (some ⟨w.heap.size, 0, none⟩) 0 0) [] :=
  .inr ⟨w.heap.size, 0, rfl, hb, #[], heap_alloc_new w _, rfl, Nat.le_refl _, Nat.zero_le _, rfl⟩
theorem own_made1 (w : World) (x : Id) : Own (w.alloc (.cells (idL x).toArray 23)) w.heap.size 1 [x] :=
  ⟨(idL x).toArray, heap_alloc_new w _, by simp, Nat.le_refl _, by unfold maxLen; omega, by rw [show flat [x] = idL x by simp [flat]]; exact List.take_of_length_le (by simp)⟩
theorem ownV_made1 (w : World) (base : Nat) (x : Id) (hb : base ≤ w.heap.size) : OwnV (w.alloc (.cells (idL x).toArray 23)) base (.slice (some ⟨w.heap.size, 0, none⟩) 1 1) [x] :=
  .inr ⟨w.heap.size, 1, rfl, hb, own_made1 w x⟩
theorem grown_kept {w W W' : World} {row : Option Nat} (h : Kept w W) (hg : W.grownBy W' row) (hr : ∀ k, row = some k → w.heap.size ≤ k) : Kept w W' :=
  ⟨hg.os.trans h.os, hg.tape.trans h.tape, hg.output.trans h.output, Nat.le_trans h.size hg.size, fun k hk => (hg.block k (Nat.lt_of_lt_of_le hk h.size) (fun e => by have := hr k e.symm; omega)).trans (h.block k hk)⟩
theorem ownV_block {w : World} {base : Nat} {v : Value} {l : List Id} (h : OwnV w base v l) : ∀ k, v.ownBlock = some k → base ≤ k := by
  intro k hk
  rcases h with ⟨rfl, _⟩ | ⟨g, cap, rfl, hg, _⟩
  · cases hk
  · simp [Value.ownBlock] at hk; omega
theorem grownV_kept {w W W' : World} {base : Nat} {v : Value} {l : List Id} (h : Kept w W) (hg : W.grownBy W' v.ownBlock) (ho : OwnV W base v l) (hb : w.heap.size ≤ base) : Kept w W' :=
  grown_kept h hg fun k hk => Nat.le_trans hb (ownV_block ho k hk)

theorem wpList_app2 {w : World} {ops : Array Oper} {rest : List Oper} {o : Oper} {a : Act} {Q : Exit → Act → World → Prop} (hgd : o.guard = none) (s x : Operand)
    (ho : o.op = .call { callee := .builtin .append, args := #[s, x], argTypes := #[24, 24] })
    (base : Nat) (v src : Value) (l m : List Id) (hs : a.eval s = v) (hx : a.eval x = src) (hown : OwnV w base v l) (hsrc : IdsV w src m) (hlen : l.length + m.length ≤ 8796093022208) (hbase : base ≤ w.heap.size)
    (h : ∀ v' w', OwnV w' base v' (l ++ m) → (∀ w0, Kept w0 w → w0.heap.size ≤ base → Kept w0 w') → wpList Try.prog ops Q rest (a.put o.dst v') w') : wpList Try.prog ops Q (o :: rest) a w :=
  wpList_app hgd s x ho base v src l m hs hx hown hsrc hlen hbase fun v' w' h1 h2 => h v' w' h1 fun _ hk hb => grownV_kept hk h2 hown hb

set_option maxHeartbeats 1600000 in
theorem copy_any (v : Value) (l : List Id) (w : World) (hv : IdsV w v l) (hl : l.length ≤ 8796093022208) :
    Calls Try.prog 7 #[v] w fun e w' => ∃ v', e = .returned v' ∧ OwnV w' w.heap.size v' l ∧ Kept w w' := by
  have h2 := ownV_made0 w w.heap.size (Nat.le_refl _)
  have h3 : IdsV (w.alloc (.cells #[] 23)) v l := idsV_kept (ka (k0 w) _) hv
  go_enter Try.func7, Try.ntmps7
  go_wp2_with (at_builtin; refine wpList_app rfl (.tmp 3) (.tmp 4) rfl w.heap.size _ v [] l rfl rfl h2 h3 (by simpa using hl) (by simp) ?_)
  rintro v' w' ho hg
  go_wp2_with fail
  go_ret
  exact ⟨_, rfl, by simpa using ho, grownV_kept (ka (k0 w) _) hg h2 (Nat.le_refl _)⟩

set_option maxHeartbeats 1600000 in
theorem clone_any (v : Value) (l : List Id) (w : World) (hv : IdsV w v l) (hl : l.length ≤ 8796093022208) :
    Calls Try.prog 27 #[v] w fun e w' => ∃ v', e = .returned v' ∧ OwnV w' w.heap.size v' l ∧ Kept w w' := by
  have q22 : ∀ (w : World) (a : Option Addr) (n c n' c' : Nat), (binOp .eql 24 (.slice a n c) (.slice none n' c')).run Try.prog w = .ok (.bool a.isNone) w := fun w a n c n' c' => Lib.run_eql_slice_nil w _ _ a n c n' c' Try.underlying24
  rcases hv with ⟨ao, cap, rfl, hao, rfl⟩ | ⟨b, off, cap, rfl, hr⟩
  · cases ao with
    | some ad =>
      have h2 := ownV_made0 w w.heap.size (Nat.le_refl _)
      have h3 : IdsV (w.alloc (.cells #[] 23)) (.slice (some ad) 0 cap) [] := .inl ⟨some ad, cap, rfl, by simp, rfl⟩
      go_enter Try.func27, Try.ntmps27
      go_wp2_with (at_builtin; refine wpList_app rfl (.tmp 5) (.tmp 6) rfl w.heap.size _ _ [] [] rfl rfl h2 h3 (by simp) (by simp) ?_)
      rintro v' w' ho hg
      go_wp2_with fail
      go_ret
      exact ⟨_, rfl, by simpa using ho, grownV_kept (ka (k0 w) _) hg h2 (Nat.le_refl _)⟩
    | none =>
    obtain rfl := hao rfl
    go_enter Try.func27, Try.ntmps27
    go_wp2_with fail
    go_ret
    exact ⟨_, rfl, .inl ⟨rfl, rfl⟩, k0 w⟩
  · have h2 := ownV_made0 w w.heap.size (Nat.le_refl _)
    have h3 : IdsV (w.alloc (.cells #[] 23)) (.slice (some ⟨b, off, none⟩) l.length cap) l := idsV_kept (ka (k0 w) _) (.inr ⟨b, off, cap, rfl, hr⟩)
    go_enter Try.func27, Try.ntmps27
    go_wp2_with (at_builtin; refine wpList_app rfl (.tmp 5) (.tmp 6) rfl w.heap.size _ _ [] l rfl rfl h2 h3 (by simpa using hl) (by simp) ?_)
    rintro v' w' ho hg
    go_wp2_with fail
    go_ret
    exact ⟨_, rfl, by simpa using ho, grownV_kept (ka (k0 w) _) hg h2 (Nat.le_refl _)⟩

end Go.Proofs.Ytdbmggdnbdcanaa
