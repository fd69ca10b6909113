/- The reference's Sorted. -/
import Derived.Test.YtdbmggdnbdcanaaFirst
namespace Go.Proofs.Ytdbmggdnbdcanaa
open Go.RowKit
open BigFrame

/-- x put where it belongs. -/
def insR (out : List Id) (x : Id) : List Id := out.takeWhile (fun y => ltB y x) ++ x :: out.dropWhile (fun y => ltB y x)
def stepR (self : Id) (out : List Id) (x : Id) : List Id := if x == self || out.contains x then out else insR out x
/-- What the first n come to. -/
def sortR (self : Id) (l : List Id) : Nat → List Id
  | 0 => []
  | n + 1 => stepR self (sortR self l n) (l.getD n 0)
theorem insR_length (out : List Id) (x : Id) : (insR out x).length = out.length + 1 := by
  have h : (out.takeWhile (fun y => ltB y x) ++ out.dropWhile (fun y => ltB y x)).length = out.length := by rw [List.takeWhile_append_dropWhile]
  rw [List.length_append] at h
  rw [insR, List.length_append, List.length_cons]; omega
theorem sortR_length (self : Id) (l : List Id) : ∀ n, (sortR self l n).length ≤ n
  | 0 => Nat.le_refl _
  | n + 1 => by
    have := sortR_length self l n
    unfold sortR stepR
    split
    · omega
    · rw [insR_length]; omega

/-- How far the walk to x's place goes. -/
theorem at_done {out : List Id} {x : Id} {a : Nat} (h : ∀ j, j < a → ltB (out.getD j 0) x = true) (ha : a ≤ out.length) (hs : a = out.length ∨ ltB (out.getD a 0) x = false) :
    out.takeWhile (fun y => ltB y x) = out.take a ∧ out.dropWhile (fun y => ltB y x) = out.drop a := by
  induction out generalizing a with
  | nil => simp
  | cons y r ih =>
    cases a with
    | zero =>
      rcases hs with hs | hs
      · simp at hs
      · simp at hs
        simp [hs]
    | succ a =>
      have h0 : ltB y x = true := by simpa using h 0 (by omega)
      obtain ⟨h1, h2⟩ := ih (a := a) (fun j hj => by simpa using h (j + 1) (by omega)) (by simpa using ha) (by simpa using hs)
      simp [h0, h1, h2]

theorem ownV_nil (w : World) (base : Nat) : OwnV w base (.slice none 0 0) [] := .inl ⟨rfl, rfl⟩
theorem ownV_mono {w : World} {base base' : Nat} {v : Value} {l : List Id} (h : OwnV w base v l) (hb : base' ≤ base) : OwnV w base' v l := by
  rcases h with h | ⟨g, cap, h1, h2, h3⟩
  · exact .inl h
  · exact .inr ⟨g, cap, h1, by omega, h3⟩
theorem ownV_kept {w w' : World} (hk : Kept w w') {base : Nat} {v : Value} {l : List Id} (h : OwnV w base v l) : OwnV w' base v l := by
  rcases h with h | ⟨g, cap, h1, h2, h3⟩
  · exact .inl h
  · exact .inr ⟨g, cap, h1, h2, own_same h3 (hk.block g (own_lt h3))⟩

theorem rsort_step {self : Id} {l : List Id} {i : Nat} (hlt : i < l.length) {b : Bool} (h : (l[i] == self || (sortR self l i).contains l[i]) = b) : sortR self l (i + 1) = if b then sortR self l i else insR (sortR self l i) l[i] := by
  have hl1 : l.getD i 0 = l[i] := by simp [List.getD, hlt]
  rw [sortR, stepR, hl1, h]

set_option maxHeartbeats 6400000 in
theorem rsort_any (self : Id) (v : Value) (l : List Id) (w : World) (hv : IdsV w v l) (hl : l.length ≤ 4000000000) :
    Calls Try.prog 21 #[.agg (idL self).toArray, v] w fun e w' => ∃ v', e = .returned v' ∧ OwnV w' w.heap.size v' (sortR self l l.length) ∧ Kept w w' := by
  obtain ⟨ao, cap, rfl, hO⟩ := idsV_form hv
  go_enter Try.func21, Try.ntmps21
  go_wp2_with fail
  refine wp_any_world (fun W => Kept w W ∧ w.heap.size + 1 ≤ W.heap.size ∧ rowAt W w.heap.size 0 16 = some (idL self)) ⟨ka (k0 w) _, by simp, by go_simp⟩ ?_
  rintro W ⟨q, hsz, r1⟩
  go_loopw [5, 6] (fun ov iv wr => ∃ i : Nat, i ≤ l.length ∧ iv = .int .i64 i ∧ OwnV wr (w.heap.size + 1) ov (sortR self l i) ∧ Kept w wr ∧ w.heap.size + 1 ≤ wr.heap.size ∧ rowAt wr w.heap.size 0 16 = some (idL self)) (fun _ iv _ => l.length - (intOf iv).toNat)
  case atStart => exact ⟨0, by omega, rfl, ownV_nil _ _, q, hsz, r1⟩
  case round =>
    obtain ⟨i, hi, rfl, hov, q, hsz, r1⟩ := hrel
    by_cases hlt : i < l.length
    · obtain ⟨b, off, rfl, hr⟩ := idsO_at hO hlt
      have i1 : (i : Int) < (l.length : Int) := by omega
      have r2 := rowAt_below q (hr i hlt)
      have hlen := sortR_length self l i
      cases hself : (l[i] == self)
      · -- it is not self
        have hstep := fun b => rsort_step (self := self) hlt (b := b)
        rw [hself] at hstep
        simp only [Bool.false_or] at hstep
        generalize hs : sortR self l i = out at hov hlen hstep
        have hstep' := Lib.hid hstep
        clear hstep hs
        have f1 := rowAt_later r1
        have f2 := rowAt_later r2
        have hiv := ownV_ids hov
        obtain ⟨cb, hcb⟩ : ∃ cb, out.contains l[i] = cb := ⟨_, rfl⟩
        have L : ∀ W, IdsV W u5 out → Calls Try.prog 32 #[u5, .agg (idL l[i]).toArray] W fun e w' => e = .returned (.bool cb) ∧ Kept W w' := fun W hW => by rw [← hcb]; exact has_any _ out _ W hW (by omega)
        have L' := Lib.hid L
        have hstep := hstep'.out cb hcb
        clear L hcb hstep'
        go_wp2_with fail
        refine wp_region_later (by kernel_rfl) (by kernel_rfl) ?_
        repeat (go_big_quiet_step (first | (go_at_call 32; exact calls_later (L'.out _ (idsV_kept (kept_later _ _) hiv)))))
        refine wpQuiet_nil ?_
        rintro w3 hq
        go_wp2_with fail
        · have h : cb = true := by assumption
          rw [if_pos h] at hstep
          go_roundw
          case rel => exact ⟨i + 1, hlt, by simp, by rw [hstep]; exact ownV_kept hq hov, kt q hq, Nat.le_trans hsz hq.size, rowAt_below hq r1⟩
          case measure => simp [intOf]; omega
        · have h : cb = false := by assumption
          rw [h, if_neg (by decide)] at hstep
          have q2 := kt q hq
          have hsz2 := Nat.le_trans hsz hq.size
          have hov2 := ownV_kept hq hov
          have s1 := rowAt_below hq r1
          have s2 := rowAt_below hq r2
          clear hov hiv f1 f2 r1 r2 q hsz hq L'
          rcases hov2 with ⟨rfl, rfl⟩ | ⟨g, oc, rfl, hg, hown⟩
          · go_loopw [7] (fun av wr => av = .int .i64 0 ∧ Kept w3 wr) (fun av _ => 0)
            case atStart => exact ⟨rfl, k0 _⟩
            case round =>
              obtain ⟨rfl, k3⟩ := hrel
              go_wp2_with fail
              go_quiet (fail)
              have hd1 : ([] : List Id).takeWhile (fun y => ltB y l[i]) = ([] : List Id).take 0 := rfl
              have hd2 : ([] : List Id).dropWhile (fun y => ltB y l[i]) = ([] : List Id).drop 0 := rfl
              go_wp2_with (at_builtin; refine stop_here ?_)
              refine Stopped.go (wpList_app2 rfl (.tmp 46) (.tmp 49) rfl w3.heap.size _ _ [] (([] : List Id).take 0) rfl rfl ?h1 ?h2 ?h3 ?h4 ?_)
              case h1 => exact ownV_nil _ _
              case h2 => exact idsV_nil _
              case h3 => simp
              case h4 => exact k3.size
              intro v1 w1 o1 g1
              have k1 : Kept w3 w1 := g1 w3 (kdn k3 _) (Nat.le_refl _)
              have z1 := k1.size
              have t1 := rowAt_below k1 s2
              go_wp2_with (at_builtin; refine stop_here ?_)
              refine Stopped.go (wpList_app2 rfl (.tmp 51) (.tmp 56) rfl w3.heap.size _ _ ([] ++ ([] : List Id).take 0) [l[i]] rfl rfl ?g1 ?g2 ?g3 ?g4 ?_)
              case g1 => exact ownV_kept (ka (k0 _) _) o1
              case g2 => exact ownV_ids (ownV_made1 _ 0 _ (Nat.zero_le _))
              case g3 => simp
              case g4 => simp; omega
              intro v2 w2 o2 g2
              have k2 : Kept w3 w2 := g2 w3 (ka k1 _) (Nat.le_refl _)
              have z2 := k2.size
              go_wp2_with (at_builtin; refine stop_here ?_)
              refine Stopped.go (wpList_app2 rfl (.tmp 58) (.tmp 61) rfl w3.heap.size _ _ ([] ++ ([] : List Id).take 0 ++ [l[i]]) (([] : List Id).drop 0) rfl rfl ?f1 ?f2 ?f3 ?f4 ?_)
              case f1 => exact o2
              case f2 => exact idsV_nil _
              case f3 => first | (simp; done) | (simp; omega)
              case f4 => exact z2
              intro v3 w4 o4 g4
              have k4 : Kept w3 w4 := g4 w3 k2 (Nat.le_refl _)
              go_wp2_with fail
              go_roundw
              case rel => exact ⟨i + 1, hlt, by simp, by rw [hstep, insR, hd1, hd2]; simpa using ownV_mono o4 hsz2, kt q2 k4, Nat.le_trans hsz2 k4.size, rowAt_below k4 s1⟩
              case measure => simp [intOf]; omega
          · go_loopw [7] (fun av wr => ∃ a : Nat, a ≤ out.length ∧ av = .int .i64 a ∧ Hid (∀ j, j < a → ltB (out.getD j 0) l[i] = true) ∧ Kept w3 wr) (fun av _ => out.length - (intOf av).toNat)
            case atStart => exact ⟨0, by omega, rfl, fun j hj => absurd hj (by omega), k0 _⟩
            case round =>
              obtain ⟨a, ha, rfl, H, k3⟩ := hrel
              by_cases hla : a < out.length
              · have a1 : (a : Int) < (out.length : Int) := by omega
                have t1 := rowAt_below k3 (own_row hown hla)
                have t2 := rowAt_below k3 s2
                have f1 := rowAt_later t1
                have f2 := rowAt_later t2
                have ho : out.getD a 0 = out[a] := by simp [List.getD, hla]
                obtain ⟨lb, hlb⟩ : ∃ lb, ltB out[a] l[i] = lb := ⟨_, rfl⟩
                have L : ∀ W, Calls Try.prog 22 #[.agg (idL out[a]).toArray, .agg (idL l[i]).toArray] W fun e w' => e = .returned (.bool lb) ∧ Kept W w' := fun W => by rw [← hlb]; exact less_any _ _ W
                have L' := Lib.hid L
                have hlb' := Lib.hid hlb
                clear L hlb ho
                have dd : decide ((a : Int) < (out.length : Int)) = true := by simp [hla]
                have hoc := (own_cap hown).1
                have aoc : a ≤ oc := by omega
                have ane : ¬ oc = a := by omega
                go_wp2_with fail
                refine wp_region_later (by kernel_rfl) (by kernel_rfl) ?_
                repeat (go_big_quiet_step (first | (go_at_call 22; exact calls_later (L'.out _))))
                refine wpQuiet_nil ?_
                rintro w5 hq5
                go_wp2_with (at_builtin; refine stop_here ?_)
                · have h : lb = true := by assumption
                  go_roundw
                  case rel =>
                    refine ⟨a + 1, hla, by simp, fun j hj => ?_, kt k3 hq5⟩
                    by_cases hja : j = a
                    · subst hja
                      have := hlb'.out
                      simpa [List.getD, hla, h] using this
                    · exact H j (by omega)
                  case measure => simp [intOf]; omega
                · have h : lb = false := by assumption
                  obtain ⟨hd1, hd2⟩ := at_done H ha (.inr (by have := hlb'.out; simpa [List.getD, hla, h] using this))
                  have hmin : min a out.length = a := by omega
                  have hkk := kt k3 hq5
                  refine Stopped.go (wpList_app2 rfl (.tmp 46) (.tmp 49) rfl w3.heap.size _ _ [] (out.take a) rfl rfl ?h1 ?h2 ?h3 ?h4 ?_)
                  case h1 => exact ownV_nil _ _
                  case h2 => exact .inr ⟨g, 0, oc, by simp [Act.eval, hmin], own_ids (own_take (own_same hown (hkk.block _ (own_lt hown))) a)⟩
                  case h3 => simp; omega
                  case h4 => exact hkk.size
                  intro v1 w1 o1 g1
                  have k1 : Kept w3 w1 := g1 w3 hkk (Nat.le_refl _)
                  have z1 := k1.size
                  have t1 := rowAt_below k1 s2
                  go_wp2_with (at_builtin; refine stop_here ?_)
                  refine Stopped.go (wpList_app2 rfl (.tmp 51) (.tmp 56) rfl w3.heap.size _ _ ([] ++ out.take a) [l[i]] rfl rfl ?g1 ?g2 ?g3 ?g4 ?_)
                  case g1 => exact ownV_kept (ka (k0 _) _) o1
                  case g2 => exact ownV_ids (ownV_made1 _ 0 _ (Nat.zero_le _))
                  case g3 => simp; omega
                  case g4 => simp; omega
                  intro v2 w2 o2 g2
                  have k2 : Kept w3 w2 := g2 w3 (ka k1 _) (Nat.le_refl _)
                  have z2 := k2.size
                  go_wp2_with (at_builtin; refine stop_here ?_)
                  refine Stopped.go (wpList_app2 rfl (.tmp 58) (.tmp 61) rfl w3.heap.size _ _ ([] ++ out.take a ++ [l[i]]) (out.drop a) rfl rfl ?f1 ?f2 ?f3 ?f4 ?_)
                  case f1 => exact o2
                  case f2 => exact .inr ⟨g, a * 16, oc - a, by simp [Act.eval], own_drop (own_same hown (k2.block _ (own_lt hown))) a⟩
                  case f3 => simp; omega
                  case f4 => exact z2
                  intro v3 w4 o4 g4
                  have k4 : Kept w3 w4 := g4 w3 k2 (Nat.le_refl _)
                  go_wp2_with fail
                  go_roundw
                  case rel => exact ⟨i + 1, hlt, by simp, by rw [hstep, insR, hd1, hd2]; simpa using ownV_mono o4 hsz2, kt q2 k4, Nat.le_trans hsz2 k4.size, rowAt_below k4 s1⟩
                  case measure => simp [intOf]; omega
              · have hal : a = out.length := by omega
                subst hal
                have dd : decide ((out.length : Int) < (out.length : Int)) = false := by simp
                have hoc := (own_cap hown).1
                obtain ⟨hd1, hd2⟩ := at_done H ha (.inl rfl)
                by_cases ane : oc = out.length
                · subst ane
                  go_wp2_with fail
                  go_quiet (fail)
                  go_wp2_with (at_builtin; refine stop_here ?_)
                  have hkk := kdn k3 nq
                  refine Stopped.go (wpList_app2 rfl (.tmp 46) (.tmp 49) rfl w3.heap.size _ _ [] (out.take out.length) rfl rfl ?h1 ?h2 ?h3 ?h4 ?_)
                  case h1 => exact ownV_nil _ _
                  case h2 => exact .inr ⟨g, 0, out.length, by simp [Act.eval], own_ids (own_take (own_same hown (hkk.block _ (own_lt hown))) out.length)⟩
                  case h3 => simp; omega
                  case h4 => exact hkk.size
                  intro v1 w1 o1 g1
                  have k1 : Kept w3 w1 := g1 w3 hkk (Nat.le_refl _)
                  have z1 := k1.size
                  have t1 := rowAt_below k1 s2
                  go_wp2_with (at_builtin; refine stop_here ?_)
                  refine Stopped.go (wpList_app2 rfl (.tmp 51) (.tmp 56) rfl w3.heap.size _ _ ([] ++ out.take out.length) [l[i]] rfl rfl ?g1 ?g2 ?g3 ?g4 ?_)
                  case g1 => exact ownV_kept (ka (k0 _) _) o1
                  case g2 => exact ownV_ids (ownV_made1 _ 0 _ (Nat.zero_le _))
                  case g3 => simp; omega
                  case g4 => simp; omega
                  intro v2 w2 o2 g2
                  have k2 : Kept w3 w2 := g2 w3 (ka k1 _) (Nat.le_refl _)
                  have z2 := k2.size
                  go_wp2_with (at_builtin; refine stop_here ?_)
                  refine Stopped.go (wpList_app2 rfl (.tmp 58) (.tmp 61) rfl w3.heap.size _ _ ([] ++ out.take out.length ++ [l[i]]) (out.drop out.length) rfl rfl ?f1 ?f2 ?f3 ?f4 ?_)
                  case f1 => exact o2
                  case f2 => exact .inr ⟨g, 0, out.length - out.length, by simp [Act.eval], by simp; intro j hj; cases hj⟩
                  case f3 => simp; omega
                  case f4 => exact z2
                  intro v3 w4 o4 g4
                  have k4 : Kept w3 w4 := g4 w3 k2 (Nat.le_refl _)
                  go_wp2_with fail
                  go_roundw
                  case rel => exact ⟨i + 1, hlt, by simp, by rw [hstep, insR, hd1, hd2]; simpa using ownV_mono o4 hsz2, kt q2 k4, Nat.le_trans hsz2 k4.size, rowAt_below k4 s1⟩
                  case measure => simp [intOf]; omega
                · go_wp2_with fail
                  go_quiet (fail)
                  go_wp2_with (at_builtin; refine stop_here ?_)
                  have hkk := kdn k3 nq
                  refine Stopped.go (wpList_app2 rfl (.tmp 46) (.tmp 49) rfl w3.heap.size _ _ [] (out.take out.length) rfl rfl ?h1 ?h2 ?h3 ?h4 ?_)
                  case h1 => exact ownV_nil _ _
                  case h2 => exact .inr ⟨g, 0, oc, by simp [Act.eval], own_ids (own_take (own_same hown (hkk.block _ (own_lt hown))) out.length)⟩
                  case h3 => simp; omega
                  case h4 => exact hkk.size
                  intro v1 w1 o1 g1
                  have k1 : Kept w3 w1 := g1 w3 hkk (Nat.le_refl _)
                  have z1 := k1.size
                  have t1 := rowAt_below k1 s2
                  go_wp2_with (at_builtin; refine stop_here ?_)
                  refine Stopped.go (wpList_app2 rfl (.tmp 51) (.tmp 56) rfl w3.heap.size _ _ ([] ++ out.take out.length) [l[i]] rfl rfl ?g1 ?g2 ?g3 ?g4 ?_)
                  case g1 => exact ownV_kept (ka (k0 _) _) o1
                  case g2 => exact ownV_ids (ownV_made1 _ 0 _ (Nat.zero_le _))
                  case g3 => simp; omega
                  case g4 => simp; omega
                  intro v2 w2 o2 g2
                  have k2 : Kept w3 w2 := g2 w3 (ka k1 _) (Nat.le_refl _)
                  have z2 := k2.size
                  go_wp2_with (at_builtin; refine stop_here ?_)
                  refine Stopped.go (wpList_app2 rfl (.tmp 58) (.tmp 61) rfl w3.heap.size _ _ ([] ++ out.take out.length ++ [l[i]]) (out.drop out.length) rfl rfl ?f1 ?f2 ?f3 ?f4 ?_)
                  case f1 => exact o2
                  case f2 => exact .inr ⟨g, out.length * 16, oc - out.length, by simp [Act.eval], own_drop (own_same hown (k2.block _ (own_lt hown))) out.length⟩
                  case f3 => simp; omega
                  case f4 => exact z2
                  intro v3 w4 o4 g4
                  have k4 : Kept w3 w4 := g4 w3 k2 (Nat.le_refl _)
                  go_wp2_with fail
                  go_roundw
                  case rel => exact ⟨i + 1, hlt, by simp, by rw [hstep, insR, hd1, hd2]; simpa using ownV_mono o4 hsz2, kt q2 k4, Nat.le_trans hsz2 k4.size, rowAt_below k4 s1⟩
                  case measure => simp [intOf]; omega
      · have hstep := rsort_step (self := self) hlt (b := true) (by rw [hself]; rfl)
        rw [if_pos rfl] at hstep
        go_wp2_with fail
        go_quiet (fail)
        go_wp2_with fail
        go_roundw
        case rel => exact ⟨i + 1, hlt, by simp, by rw [hstep]; exact ownV_kept (kdn (k0 _) _) hov, kdn q _, hsz, rowAt_below (kdn (k0 _) _) r1⟩
        case measure => simp [intOf]; omega
    · have hle : i = l.length := by omega
      subst hle
      go_wp2_with fail
      go_ret
      exact ⟨_, rfl, ownV_mono hov (by omega), q⟩
end Go.Proofs.Ytdbmggdnbdcanaa
