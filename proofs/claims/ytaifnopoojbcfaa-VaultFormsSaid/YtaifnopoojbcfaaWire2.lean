/- wire.GetID, GetText. -/
import Derived.Test.YtaifnopoojbcfaaWire
import Derived.Test.YtaifnopoojbcfaaVForm
namespace Go.Proofs.Ytaifnopoojbcfaa
open Go.RowKit
open BigFrame

section
variable {P : Program}
/-- Two or three results, the first of which lies in memory. -/
theorem results_row2 {fn : Func} {p q : Tmp} {ty : TypeId} (h : fn.results = #[.cell p ty, .tmp q]) (tmps : Array Value) (w : World) (b : Nat) (cs : List Value) (d : TypeDesc) (k : Nat)
    (hp : tmps.getD p undef = .pointer (some ⟨b, 0, none⟩)) (hg : rowAt w b 0 k = some cs) (hu : P.underlying ty = some d) (hd : d.isRow = true) (hi : (P.info? ty).map (·.size) = some k) :
    (results fn tmps).run P w = .ok (.tuple #[.agg cs.toArray, tmps.getD q undef]) w := by
  obtain ⟨hr, hl⟩ := rowAt_range hg
  have hp' : tmps[p]?.getD undef = .pointer (some ⟨b, 0, none⟩) := by simpa using hp
  have := run_loadVar_mid (P := P) w b 0 ty cs d hr hu hd (by rw [hl]; exact hi)
  simp [results, h, hp', asAddr, this]
theorem results_row3 {fn : Func} {p q r : Tmp} {ty : TypeId} (h : fn.results = #[.cell p ty, .tmp q, .tmp r]) (tmps : Array Value) (w : World) (b : Nat) (cs : List Value) (d : TypeDesc) (k : Nat)
    (hp : tmps.getD p undef = .pointer (some ⟨b, 0, none⟩)) (hg : rowAt w b 0 k = some cs) (hu : P.underlying ty = some d) (hd : d.isRow = true) (hi : (P.info? ty).map (·.size) = some k) :
    (results fn tmps).run P w = .ok (.tuple #[.agg cs.toArray, tmps.getD q undef, tmps.getD r undef]) w := by
  obtain ⟨hr, hl⟩ := rowAt_range hg
  have hp' : tmps[p]?.getD undef = .pointer (some ⟨b, 0, none⟩) := by simpa using hp
  have := run_loadVar_mid (P := P) w b 0 ty cs d hr hu hd (by rw [hl]; exact hi)
  simp [results, h, hp', asAddr, this]
end
theorem idPart_toL : (idPart 0 0).toList.length = 16 := by simp

set_option maxHeartbeats 1600000 in
theorem getid_any (b off cap : Nat) (l : List UInt8) (k : Nat) (x : Id) (w : World) (hv : ElV w (.slice (some ⟨b, off, none⟩) l.length cap) (bL l)) (hc : l.length ≤ cap) (hm : l.length ≤ 1000)
    (hk : k + 16 ≤ l.length) (hx : (l.drop k).take 16 = bytL x) :
    Calls Try.prog 37 #[.slice (some ⟨b, off, none⟩) l.length cap, .int .i64 k] w fun e w' => e = .returned (.tuple #[.agg (idL x).toArray, .int .i64 ((k : Int) + 16), .int .i64 0]) ∧ Kept w w' := by
  have d1 : decide ((k : Int) < 0) = false := by simp
  have d2 : decide (l.length < k) = false := by simp; omega
  have d3 : decide ((l.length : Int) - (k : Int) < 16) = false := by simp; omega
  have n1 : (cap = k) = False := by simp; omega
  have i1 : (k : Int) ≤ (l.length : Int) := by omega
  have ES := elV_sub hv k 16 (cap - k) (by rw [bL_length]; omega) (by omega)
  rw [show ((bL l).drop k).take 16 = idL x by rw [idL_bL, ← hx]; simp [bL]] at ES
  have HES := Lib.hid ES
  clear hx ES hv
  go_enter Try.func37, Try.ntmps37
  go_wp2_with fail
  refine wp_any_world (fun W => Kept w W ∧ canPut W w.heap.size 0 16 = true ∧ W.heap[w.heap.size + 1]? = some (.cells (idPart 0 0) 23 (0, 0))) ⟨ka (ka (k0 w) _) _, by go_simp, by rw [idPart_zero]; exact heap_at _ _ (by simp)⟩ ?_
  rintro W ⟨q, hcp, hh⟩
  go_still_tail 4, (by kernel_rfl)
  refine wpList_any_world (fun V => Kept W V) (kd (k0 W)) ?_
  rintro V qV
  have hh1 := heap_kept qV hh
  have HS1 := elV_kept (kt q qV) HES.out
  have hc1 := canPut_below qV hcp
  have hk1 : min (l.length - k) 16 = 16 := by omega
  have hn1 : (idL x).length = Nat.min (l.length - k) 16 := by rw [idL_length]; exact hk1.symm
  refine wpList_copy_own rfl (.tmp 25) (.tmp 28) _ _ rfl 5 Try.underlying26 (by kernel_rfl) (w.heap.size + 1) 0 16 16 ⟨b, off + k, none⟩ (l.length - k) (cap - k) rfl rfl _ _ hh1 (idL x) hn1 (fun j u hu => ?_) (by simp) (idL_one x) ?_
  · rw [Addr.add_lit]
    have hj : j < (idL x).length := (List.getElem?_eq_some_iff.1 hu).1
    rw [elV_cell HS1 j hj, hu]
  · rw [List.take_zero, List.nil_append, List.drop_of_length_le (by simp), List.append_nil]
    refine wpList_any_world (fun U => Kept w U ∧ canPut U w.heap.size 0 16 = true ∧ rowAt U (w.heap.size + 1) 0 16 = some (idL x)) ⟨?_, ?_, ?_⟩ ?_
    · exact xkept (xrow (xk (bs := [w.heap.size + 1]) (kt q qV)) (by simp) _) (by simp)
    · rw [canPut_same (setRow_other _ _ _ _ (by omega))]; exact hc1
    · exact rowAt_heap (setRow_heap _ _ _ _ _ _ hh1) (by simp)
    · rintro U ⟨qU, hcU, hrU⟩
      go_wp2_with fail
      refine bodyPost_ret (v := .tuple #[.agg (idL x).toArray, .int .i64 ((k : Int) + 16), .int .i64 0]) (results_row3 (p := 4) (q := 5) (r := 6) rfl _ _ w.heap.size (idL x) _ 16 rfl (rowAt_put_same _ _ _ _ _ (by simp) hcU) Try.underlying23 rfl (by kernel_rfl)) rfl ⟨rfl, kp qU (Nat.le_refl _) _ _⟩

set_option maxHeartbeats 1600000 in
theorem gettext_any (b off cap : Nat) (l : List UInt8) (k : Nat) (t : List UInt8) (w : World) (hv : ElV w (.slice (some ⟨b, off, none⟩) l.length cap) (bL l)) (hc : l.length ≤ cap) (hm : l.length ≤ 1000)
    (h1 : l[k]? = some 1) (h2 : l[k + 1]? = some (UInt8.ofNat t.length)) (ht0 : 0 < t.length) (ht : t.length ≤ 64) (hk : k + 2 + t.length ≤ l.length) (hx : (l.drop (k + 2)).take t.length = t) :
    Calls Try.prog 38 #[.slice (some ⟨b, off, none⟩) l.length cap, .int .i64 k, .int .i64 64] w fun e w' => ∃ v', e = .returned (.tuple #[v', .int .i64 ((k : Int) + 2 + (t.length : Nat)), .int .i64 0]) ∧ OwV w' w.heap.size 5 v' (bL t) ∧ Kept w w' := by
  have hm8 : (UInt8.ofNat t.length).toNat = t.length := by simp; omega
  have G := getnum_one b off cap l k (UInt8.ofNat t.length) w hv hc hm h1 h2 (by intro e; have h0 := congrArg UInt8.toNat e; rw [hm8] at h0; have h00 : (0 : UInt8).toNat = 0 := rfl; omega)
  rw [hm8] at G
  have G' := Lib.hid G
  have ES := elV_sub hv (k + 2) t.length (cap - (k + 2)) (by rw [bL_length]; omega) (by omega)
  rw [show ((bL l).drop (k + 2)).take t.length = bL t by unfold bL; rw [← List.map_drop, ← List.map_take, hx]] at ES
  have HES := Lib.hid ES
  clear G ES hx h1 h2 hv hm8
  have n1 : (cap = k + 2) = False := by simp; omega
  have i1 : (t.length : Int) ≤ 64 := by omega
  have i2 : (t.length : Int) ≤ (l.length : Int) - ((k : Int) + 2) := by omega
  have i3 : (k : Int) + 2 + (t.length : Int) ≤ (cap : Int) := by omega
  go_enter Try.func38, Try.ntmps38
  go_wp2_with fail
  refine G'.out.mono ?_
  rintro e w1 ⟨rfl, q1⟩
  have HE1 := Lib.hid (elV_kept q1 HES.out)
  go_wp2_with (at_builtin; refine stop_here ?_)
  refine Stopped.go (wpList_appB rfl (.tmp 39) (.tmp 46) rfl w1.heap.size _ (.slice (some ⟨b, off + (k + 2), none⟩) t.length (cap - (k + 2))) [] t rfl (by simp [Act.eval]) (owV_made w1 [] _ 0 rfl (by unfold maxLen; simp)) (elV_kept (ka (k0 _) _) HE1.out) (by simp; omega) (by simp) ?_)
  intro v2 w2 o2 g2
  have q2 := g2 w1 (ka (k0 _) _) (Nat.le_refl _)
  go_wp2_with fail
  go_ret3
  exact ⟨_, rfl, owV_mono o2 q1.size, kt q1 q2⟩
end Go.Proofs.Ytaifnopoojbcfaa
