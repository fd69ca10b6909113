/- slate.Open, where each record takes one sector. -/
import Derived.Test.YtaifnopoojbcfaaSlate2
namespace Go.Proofs.Ytaifnopoojbcfaa
open Go.RowKit
open BigFrame

def headF (l : List UInt8) : Nat × Nat × Nat := (valB (l.take 8), valB ((l.drop 8).take 8), valB ((l.drop 16).take 8))
/-- A record's sector. -/
def recSec (r : List UInt8) : List UInt8 := pad (UInt8.ofNat (r.length / 256) :: UInt8.ofNat r.length :: r)
/-- Disks that hold a log of records of one sector each. -/
structure LogOn (S : List (List UInt8)) (gen : Nat) (recs : List (List UInt8)) : Prop where
  three : 3 ≤ S.length
  room : recs.length + 2 ≤ S.length
  z0 : ∀ c ∈ (S.getD 0 []).drop 24, c = 0
  z1 : ∀ c ∈ (S.getD 1 []).drop 24, c = 0
  sel : (if (headF (S.getD 0 [])).1 < (headF (S.getD 1 [])).1 then headF (S.getD 1 []) else headF (S.getD 0 [])) = (gen, recs.length, recs.length)
  small : gen ≤ 1000000
  none : gen = 0 → recs = []
  len : ∀ i (h : i < recs.length), recs[i].length ≤ 62
  sec : ∀ i (h : i < recs.length), S.getD (2 + i) [] = recSec recs[i]

def LogAt (w : World) (lb a : Nat) (gen used n : Nat) (down : Bool) : Prop :=
  w.heap[lb]? = some (.cells #[.pointer (some ⟨a, 0, none⟩), .int .u64 gen, .int .i64 used, .int .i64 n, .bool down] 82 (0, 0))
/-- Slices of bytes, in a row of the call's own. -/
def RecsAt (w : World) (base : Nat) (v : Value) (recs : List (List UInt8)) : Prop :=
  ∃ vs : List Value, OwV w base 26 v vs ∧ vs.length = recs.length ∧ ∀ i (h : i < recs.length) (h' : i < vs.length), OwV w 0 5 vs[i] (bL recs[i])
theorem recs_kept {w w' : World} (hk : Kept w w') {base : Nat} {v : Value} {recs : List (List UInt8)} (h : RecsAt w base v recs) : RecsAt w' base v recs := by
  obtain ⟨vs, h1, h2, h3⟩ := h
  exact ⟨vs, owV_kept hk h1, h2, fun i hi hi' => owV_kept hk (h3 i hi hi')⟩
theorem recs_nil (w : World) (base : Nat) : RecsAt w base (.slice none 0 0) [] := ⟨[], owV_nil _ _ _, rfl, fun i h => by simp at h⟩
theorem info_bs : (Try.prog.info? 26).map (fun i => (i.zero, i.size, i.bytes)) = some (some (.slice none 0 0), 1, 24) := by kernel_rfl

theorem own_one {w : World} {base : Nat} {t : TypeId} {v : Value} {xs : List Value} (h : OwV w base t v xs) : v.oneCell' = true := by
  rcases h.2 with ⟨rfl, _⟩ | ⟨g, cap, cur, rfl, _⟩ <;> rfl
theorem wpList_appR {w : World} {ops : Array Oper} {rest : List Oper} {o : Oper} {a : Act} {Q : Exit → Act → World → Prop} (hgd : o.guard = none) (s x : Operand)
    (ho : o.op = .call { callee := .builtin .append, args := #[s, x], argTypes := #[62, 62] })
    (base : Nat) (v src e : Value) (recs : List (List UInt8)) (r : List UInt8) (hs : a.eval s = v) (hx : a.eval x = src) (hR : RecsAt w base v recs) (he : OwV w 0 5 e (bL r)) (hsrc : ElV w src [e])
    (hlen : recs.length ≤ 100000) (hbase : base ≤ w.heap.size)
    (h : ∀ v' w', RecsAt w' base v' (recs ++ [r]) → (∀ w0, Kept w0 w → w0.heap.size ≤ base → Kept w0 w') → wpList Try.prog ops Q rest (a.put o.dst v') w') : wpList Try.prog ops Q (o :: rest) a w := by
  obtain ⟨vs, h1, h2, h3⟩ := hR
  refine wpList_appG Try.underlying62 info_bs rfl hgd s x ho base v src vs [e] hs hx h1 hsrc (by intro u hu; rw [List.mem_singleton.1 hu]; exact own_one he) (by unfold maxLen; simp; omega) (by simp; omega) hbase ?_
  intro v' w' o' g'
  refine h v' w' ⟨vs ++ [e], o', by simp [h2], fun i hi hi' => ?_⟩ fun w0 hk hb => kept_grown hk hb h1 g'
  by_cases hil : i < recs.length
  · have hv : i < vs.length := by omega
    rw [List.getElem_append_left hv, List.getElem_append_left hil]
    exact (h3 i hil hv).kept g' (own_ne (h3 i hil hv) h1 (by decide))
  · have e1 : i = recs.length := by simp at hi; omega
    subst e1
    rw [List.getElem_append_right (by omega), List.getElem_append_right (by omega)]
    simp [h2]
    exact he.kept g' (own_ne he h1 (by decide))
theorem recSec_sub (r : List UInt8) : ((bL (recSec r)).drop 2).take r.length = bL r := by
  unfold recSec pad bL
  rw [List.cons_append, List.cons_append, List.map_cons, List.map_cons, List.drop_succ_cons, List.drop_succ_cons, List.drop_zero, List.map_append]
  exact take_app (by simp)
theorem or_small : ∀ n : Nat, n ≤ 62 → bits .or .i64 0 (n : Int) = (n : Int) := by decide

set_option maxRecDepth 100000 in
set_option maxHeartbeats 3200000 in
theorem sopen_any (a g : Nat) (S : List (List UInt8)) (p : Int) (gen : Nat) (recs : List (List UInt8)) (w : World) (h : DiskAt w a g S p) (hL : LogOn S gen recs) :
    Calls Try.prog 25 #[.pointer (some ⟨a, 0, none⟩)] w fun e w' => ∃ lb v, e = .returned (.tuple #[.pointer (some ⟨lb, 0, none⟩), v, .int .i64 0]) ∧ w.heap.size ≤ lb ∧ LogAt w' lb a gen recs.length recs.length false ∧ RecsAt w' w.heap.size v recs ∧ Kept w w' := by
  have h3 := hL.three
  have hroom := hL.room
  have h46 := h.2.2.2.2
  have hsec := h.2.2.2.1
  have s0 : S.getD 0 [] = S[0] := by simp [List.getD, show 0 < S.length by omega]
  have s1 : S.getD 1 [] = S[1] := by simp [List.getD, show 1 < S.length by omega]
  have z0 := hL.z0
  have z1 := hL.z1
  have sel := hL.sel
  rw [s0] at z0
  rw [s1] at z1
  rw [s0, s1] at sel
  have l0 : (S[0]).length = 64 := hsec _ (List.getElem_mem _)
  have l1 : (S[1]).length = 64 := hsec _ (List.getElem_mem _)
  have hgs := hL.small
  have Hn := Lib.hid hL.none
  have C0 := Lib.hid fun (W : World) (hk : Kept w W) => read_any a g S p 0 W (disk_kept hk h) (by omega)
  have C1 := Lib.hid fun (W : World) (hk : Kept w W) => read_any a g S p 1 W (disk_kept hk h) (by omega)
  have CS := Lib.hid fun (W : World) (hk : Kept w W) => size_any a g S p W (disk_kept hk h)
  have Hs := Lib.hid hsec
  have HZ := Lib.hid (And.intro (And.intro z0 z1) (And.intro l0 l1))
  have SEL := Lib.hid sel
  have HL := Lib.hid hL
  have HD := Lib.hid h
  have hs3 : (3 : Int) ≤ (S.length : Int) := by omega
  clear hsec z0 z1 s0 s1 sel l0 l1 hL h
  go_enter Try.func25, Try.ntmps25
  go_wp2_with fail
  refine (CS.out _ (k0 _)).mono ?_
  rintro e w1 ⟨rfl, q1⟩
  go_wp2_with fail
  refine (C0.out _ q1).mono ?_
  rintro e w2 ⟨v0, rfl, o0, q2⟩
  have q2 := kt q1 q2
  go_wp2_with fail
  refine (C1.out _ q2).mono ?_
  rintro e w3 ⟨v1, rfl, o1, q3⟩
  have o0 := owV_kept q3 o0
  have q3 := kt q2 q3
  clear q1 q2
  go_wp2_with fail
  obtain ⟨b0, cap0, rfl, hc0, hm0, -⟩ := owV_form o0 (by rw [bL_length, HZ.out.2.1]; omega)
  obtain ⟨b1, cap1, rfl, hc1, hm1, -⟩ := owV_form o1 (by rw [bL_length, HZ.out.2.2]; omega)
  rw [bL_length, HZ.out.2.1] at o0 hc0 ⊢
  rw [bL_length, HZ.out.2.2] at o1 hc1 ⊢
  have E0 := Lib.hid (owV_elV o0)
  have E1 := Lib.hid (owV_elV o1)
  clear o0 o1
  refine (head_any b0 0 cap0 S[0] w3 E0.out HZ.out.2.1 hc0 hm0 HZ.out.1.1).mono ?_
  rintro e w4 ⟨rfl, q4⟩
  have E1' := Lib.hid (elV_kept q4 E1.out)
  have q4 := kt q3 q4
  clear q3 E0 E1 hm0
  go_wp2_with fail
  refine (head_any b1 0 cap1 S[1] w4 E1'.out HZ.out.2.2 hc1 hm1 HZ.out.1.2).mono ?_
  rintro e w5 ⟨rfl, q5⟩
  have q5 := kt q4 q5
  clear q4 E1' hm1
  have SEL' := SEL.out
  unfold headF at SEL'
  generalize valB (S[0].take 8) = x0 at SEL' ⊢
  generalize valB ((S[0].drop 8).take 8) = y0 at SEL' ⊢
  generalize valB ((S[0].drop 16).take 8) = n0 at SEL' ⊢
  generalize valB (S[1].take 8) = x1 at SEL' ⊢
  generalize valB ((S[1].drop 8).take 8) = y1 at SEL' ⊢
  generalize valB ((S[1].drop 16).take 8) = n1 at SEL' ⊢
  have ways : (x0 < x1 ∧ x1 = gen ∧ y1 = recs.length ∧ n1 = recs.length ∧ gen ≠ 0) ∨ (¬ x0 < x1 ∧ x0 = gen ∧ y0 = recs.length ∧ n0 = recs.length ∧ gen ≠ 0) ∨ (¬ x0 < x1 ∧ x0 = gen ∧ y0 = 0 ∧ n0 = 0 ∧ gen = 0 ∧ recs = []) := by
    split at SEL' <;> rename_i hlt <;> simp only [Prod.mk.injEq] at SEL' <;> obtain ⟨rfl, e1, e2⟩ := SEL'
    · exact .inl ⟨hlt, rfl, e1, e2, by omega⟩
    · by_cases h0 : x0 = 0
      · have := Hn.out h0
        subst this
        exact .inr (.inr ⟨hlt, rfl, e1, e2, h0, rfl⟩)
      · exact .inr (.inl ⟨hlt, rfl, e1, e2, h0⟩)
  clear SEL'
  have hb63 : decide (0 < (gen : Int) / 9223372036854775808) = false := by simp; omega
  have hle : decide ((S.length : Int) - 2 < (recs.length : Int)) = false := by simp; omega
  rcases ways with ⟨hlt, rfl, rfl, rfl, hg0⟩ | ⟨hlt, rfl, rfl, rfl, hg0⟩ | ⟨hlt, rfl, rfl, rfl, rfl, rfl⟩
  · have hg1 : ((x1 : Int) == 0) = false := by simp; omega
    have hlt1 : (x0 : Int) < (x1 : Int) := by omega
    go_wp2_with fail
    refine (CS.out _ q5).mono ?_
    rintro e w6 ⟨rfl, q6⟩
    have q6 := kt q5 q6
    clear q5
    go_wp2_with fail
    go_loopw [15, 16, 73] (fun ov av kv wr => ∃ k : Nat, k ≤ recs.length ∧ kv = .int .u64 k ∧ av = .int .i64 (2 + k) ∧ RecsAt wr w.heap.size ov (recs.take k) ∧ Kept w wr) (fun _ _ kv _ => recs.length - (intOf kv).toNat)
    case atStart => exact ⟨0, by omega, rfl, rfl, recs_nil _ _, q6⟩
    case round =>
      obtain ⟨k, hk, rfl, rfl, hR, q⟩ := hrel
      by_cases hkl : k < recs.length
      · have k1 : (k : Int) < (recs.length : Int) := by omega
        have hr62 := HL.out.len k hkl
        have hsec : S[2 + k]'(by omega) = recSec recs[k] := by
          have := HL.out.sec k hkl
          simpa [List.getD, show 2 + k < S.length by omega] using this
        have CR := read_any a g S p (2 + k) wr (disk_kept q HD.out) (by omega)
        rw [hsec, show ((2 + k : Nat) : Int) = 2 + (k : Int) by omega] at CR
        have CR' := Lib.hid CR
        have Hsec := Lib.hid hsec
        have HR := Lib.hid hR
        clear CR hsec hR hb63 hle
        have HT := Lib.hid (List.take_succ_eq_append_getElem hkl)
        generalize recs[k] = r at *
        go_wp2_with fail
        refine CR'.out.mono ?_
        rintro e w7 ⟨v7, rfl, o7, q7⟩
        have hlr : (recSec r).length = 64 := pad_length (by simp; omega)
        have q7' := kt q q7
        have HR7 := Lib.hid (recs_kept q7 HR.out)
        obtain ⟨b7, cap7, rfl, hc7, hm7, hb7⟩ := owV_form o7 (by rw [bL_length]; omega)
        rw [bL_length, hlr] at o7 hc7 ⊢
        have e0 : (recSec r)[0]? = some 0 := by
          have : UInt8.ofNat (r.length / 256) = 0 := by rw [show r.length / 256 = 0 by omega]; rfl
          simp [recSec, pad, this]
        have e1 : (recSec r)[1]? = some (UInt8.ofNat r.length) := by simp [recSec, pad]
        have E7 := Lib.hid (owV_elV o7)
        have c0 : w7.cell? ⟨b7, 0, none⟩ = some (.int .u8 0) := by
          have := elV_cell E7.out 0 (by rw [bL_length]; omega)
          rw [Nat.zero_add] at this
          rw [this, bL, List.getElem?_map, e0]; rfl
        have c1 : w7.cell? ⟨b7, 1, none⟩ = some (.int .u8 (r.length : Nat)) := by
          have := elV_cell E7.out 1 (by rw [bL_length]; omega)
          rw [Nat.zero_add] at this
          rw [this, bL, List.getElem?_map, e1]; simp [bC, Nat.mod_eq_of_lt (show r.length < 256 by omega)]
        clear e0 e1 o7
        go_wp2_with fail
        go_quiet (fail)
        have q8 : Kept w7 (w7.drewN nq) := kdn (k0 _) nq
        generalize w7.drewN nq = W8 at q8 ⊢
        have hor := or_small r.length hr62
        have E8 := Lib.hid (elV_kept q8 E7.out)
        have HR8 := Lib.hid (recs_kept q8 HR7.out)
        have q8' := kt q7' q8
        have hc2 : (2 : Int) + (r.length : Int) ≤ (cap7 : Int) := by omega
        have nc : (cap7 = 2) = False := by simp; omega
        clear c0 c1 q8 q7
        go_wp2_with fail
        refine (need_one r.length _ hr62).mono ?_
        rintro e w9 ⟨rfl, q9⟩
        go_wp2_with fail
        refine wp_any_world (fun W => Kept W8 W) q9 ?_
        clear q9
        rintro W9 q9
        go_loopw [17, 20] (fun sv iv wi => sv = .slice (some ⟨b7, 0, none⟩) 64 cap7 ∧ iv = .int .i64 1 ∧ Kept W9 wi) (fun _ _ _ => 0)
        case atStart => exact ⟨rfl, rfl, k0 _⟩
        case round =>
          obtain ⟨rfl, rfl, q10⟩ := hrel
          go_wp2_with fail
          refine (need_one r.length _ hr62).mono ?_
          rintro e w11 ⟨rfl, q11⟩
          go_wp2_with (at_builtin; refine stop_here ?_)
          have hl2 : (2 : Nat) + r.length ≤ 64 := by omega
          have q12 : Kept W8 w11 := kt q9 (kt q10 q11)
          have ES : ElV w11 (.slice (some ⟨b7, 2, none⟩) r.length (cap7 - 2)) (bL r) := by
            have := elV_sub (elV_kept q12 E8.out) 2 r.length (cap7 - 2) (by rw [bL_length, hlr]; omega) (by omega)
            rwa [recSec_sub, Nat.zero_add] at this
          have HR12 := recs_kept q12 HR8.out
          have q12' := kt q8' q12
          refine Stopped.go (wpList_appB rfl (.tmp 126) (.tmp 130) rfl w11.heap.size _ (.slice (some ⟨b7, 2, none⟩) r.length (cap7 - 2)) [] r rfl (by simp [Act.eval]) (owV_made w11 [] _ 0 rfl (by unfold maxLen; simp)) (elV_kept (ka (k0 _) _) ES) (by simp; omega) (by simp) ?_)
          intro v13 w13 o13 g13
          have q13 : Kept w11 w13 := g13 w11 (ka (k0 _) _) (Nat.le_refl _)
          rw [List.nil_append] at o13
          obtain ⟨ao, cp, rfl, -, -⟩ := elV_form (owV_elV o13)
          rw [bL_length] at o13 ⊢
          have HR13 := recs_kept q13 HR12
          have q13' := kt q12' q13
          clear ES HR12 q12 q12' q13 g13
          go_wp2_with (at_builtin; refine stop_here ?_)
          refine Stopped.go (wpList_appR rfl (.tmp 125) (.tmp 132) rfl w.heap.size _ _ _ (recs.take k) r rfl rfl (recs_kept (ka (k0 _) _) HR13) (owV_mono (owV_kept (ka (k0 _) _) o13) (Nat.zero_le _)) (elV_made1 _ _ _) (by simp; omega) (by have := q13'.size; simp; omega) ?_)
          intro v14 w14 HR14 g14
          have q14 := g14 w (ka q13' _) (Nat.le_refl _)
          rw [← HT.out] at HR14
          clear HR13 o13 q13' g14
          go_wp2_with fail
          refine (need_one r.length _ hr62).mono ?_
          rintro e w15 ⟨rfl, q15⟩
          have HR15 := recs_kept q15 HR14
          have q15 := kt q14 q15
          go_wp2_with fail
          go_roundw
          case rel => exact ⟨k + 1, by omega, by go_num, by go_num, HR15, q15⟩
          case measure => simp [intOf]; omega
      · obtain rfl : k = recs.length := by omega
        have hR1 := hR
        rw [List.take_of_length_le (Nat.le_refl _)] at hR1
        go_wp2_with fail
        go_ret3
        exact ⟨_, _, rfl, q.size, heap_alloc_new _ _, recs_kept (ka (k0 _) _) hR1, ka q _⟩
  · have hg1 : ((x0 : Int) == 0) = false := by simp; omega
    have hlt1 : (x1 : Int) ≤ (x0 : Int) := by omega
    go_wp2_with fail
    refine (CS.out _ q5).mono ?_
    rintro e w6 ⟨rfl, q6⟩
    have q6 := kt q5 q6
    clear q5
    go_wp2_with fail
    go_loopw [15, 16, 73] (fun ov av kv wr => ∃ k : Nat, k ≤ recs.length ∧ kv = .int .u64 k ∧ av = .int .i64 (2 + k) ∧ RecsAt wr w.heap.size ov (recs.take k) ∧ Kept w wr) (fun _ _ kv _ => recs.length - (intOf kv).toNat)
    case atStart => exact ⟨0, by omega, rfl, rfl, recs_nil _ _, q6⟩
    case round =>
      obtain ⟨k, hk, rfl, rfl, hR, q⟩ := hrel
      by_cases hkl : k < recs.length
      · have k1 : (k : Int) < (recs.length : Int) := by omega
        have hr62 := HL.out.len k hkl
        have hsec : S[2 + k]'(by omega) = recSec recs[k] := by
          have := HL.out.sec k hkl
          simpa [List.getD, show 2 + k < S.length by omega] using this
        have CR := read_any a g S p (2 + k) wr (disk_kept q HD.out) (by omega)
        rw [hsec, show ((2 + k : Nat) : Int) = 2 + (k : Int) by omega] at CR
        have CR' := Lib.hid CR
        have Hsec := Lib.hid hsec
        have HR := Lib.hid hR
        clear CR hsec hR hb63 hle
        have HT := Lib.hid (List.take_succ_eq_append_getElem hkl)
        generalize recs[k] = r at *
        go_wp2_with fail
        refine CR'.out.mono ?_
        rintro e w7 ⟨v7, rfl, o7, q7⟩
        have hlr : (recSec r).length = 64 := pad_length (by simp; omega)
        have q7' := kt q q7
        have HR7 := Lib.hid (recs_kept q7 HR.out)
        obtain ⟨b7, cap7, rfl, hc7, hm7, hb7⟩ := owV_form o7 (by rw [bL_length]; omega)
        rw [bL_length, hlr] at o7 hc7 ⊢
        have e0 : (recSec r)[0]? = some 0 := by
          have : UInt8.ofNat (r.length / 256) = 0 := by rw [show r.length / 256 = 0 by omega]; rfl
          simp [recSec, pad, this]
        have e1 : (recSec r)[1]? = some (UInt8.ofNat r.length) := by simp [recSec, pad]
        have E7 := Lib.hid (owV_elV o7)
        have c0 : w7.cell? ⟨b7, 0, none⟩ = some (.int .u8 0) := by
          have := elV_cell E7.out 0 (by rw [bL_length]; omega)
          rw [Nat.zero_add] at this
          rw [this, bL, List.getElem?_map, e0]; rfl
        have c1 : w7.cell? ⟨b7, 1, none⟩ = some (.int .u8 (r.length : Nat)) := by
          have := elV_cell E7.out 1 (by rw [bL_length]; omega)
          rw [Nat.zero_add] at this
          rw [this, bL, List.getElem?_map, e1]; simp [bC, Nat.mod_eq_of_lt (show r.length < 256 by omega)]
        clear e0 e1 o7
        go_wp2_with fail
        go_quiet (fail)
        have q8 : Kept w7 (w7.drewN nq) := kdn (k0 _) nq
        generalize w7.drewN nq = W8 at q8 ⊢
        have hor := or_small r.length hr62
        have E8 := Lib.hid (elV_kept q8 E7.out)
        have HR8 := Lib.hid (recs_kept q8 HR7.out)
        have q8' := kt q7' q8
        have hc2 : (2 : Int) + (r.length : Int) ≤ (cap7 : Int) := by omega
        have nc : (cap7 = 2) = False := by simp; omega
        clear c0 c1 q8 q7
        go_wp2_with fail
        refine (need_one r.length _ hr62).mono ?_
        rintro e w9 ⟨rfl, q9⟩
        go_wp2_with fail
        refine wp_any_world (fun W => Kept W8 W) q9 ?_
        clear q9
        rintro W9 q9
        go_loopw [17, 20] (fun sv iv wi => sv = .slice (some ⟨b7, 0, none⟩) 64 cap7 ∧ iv = .int .i64 1 ∧ Kept W9 wi) (fun _ _ _ => 0)
        case atStart => exact ⟨rfl, rfl, k0 _⟩
        case round =>
          obtain ⟨rfl, rfl, q10⟩ := hrel
          go_wp2_with fail
          refine (need_one r.length _ hr62).mono ?_
          rintro e w11 ⟨rfl, q11⟩
          go_wp2_with (at_builtin; refine stop_here ?_)
          have hl2 : (2 : Nat) + r.length ≤ 64 := by omega
          have q12 : Kept W8 w11 := kt q9 (kt q10 q11)
          have ES : ElV w11 (.slice (some ⟨b7, 2, none⟩) r.length (cap7 - 2)) (bL r) := by
            have := elV_sub (elV_kept q12 E8.out) 2 r.length (cap7 - 2) (by rw [bL_length, hlr]; omega) (by omega)
            rwa [recSec_sub, Nat.zero_add] at this
          have HR12 := recs_kept q12 HR8.out
          have q12' := kt q8' q12
          refine Stopped.go (wpList_appB rfl (.tmp 126) (.tmp 130) rfl w11.heap.size _ (.slice (some ⟨b7, 2, none⟩) r.length (cap7 - 2)) [] r rfl (by simp [Act.eval]) (owV_made w11 [] _ 0 rfl (by unfold maxLen; simp)) (elV_kept (ka (k0 _) _) ES) (by simp; omega) (by simp) ?_)
          intro v13 w13 o13 g13
          have q13 : Kept w11 w13 := g13 w11 (ka (k0 _) _) (Nat.le_refl _)
          rw [List.nil_append] at o13
          obtain ⟨ao, cp, rfl, -, -⟩ := elV_form (owV_elV o13)
          rw [bL_length] at o13 ⊢
          have HR13 := recs_kept q13 HR12
          have q13' := kt q12' q13
          clear ES HR12 q12 q12' q13 g13
          go_wp2_with (at_builtin; refine stop_here ?_)
          refine Stopped.go (wpList_appR rfl (.tmp 125) (.tmp 132) rfl w.heap.size _ _ _ (recs.take k) r rfl rfl (recs_kept (ka (k0 _) _) HR13) (owV_mono (owV_kept (ka (k0 _) _) o13) (Nat.zero_le _)) (elV_made1 _ _ _) (by simp; omega) (by have := q13'.size; simp; omega) ?_)
          intro v14 w14 HR14 g14
          have q14 := g14 w (ka q13' _) (Nat.le_refl _)
          rw [← HT.out] at HR14
          clear HR13 o13 q13' g14
          go_wp2_with fail
          refine (need_one r.length _ hr62).mono ?_
          rintro e w15 ⟨rfl, q15⟩
          have HR15 := recs_kept q15 HR14
          have q15 := kt q14 q15
          go_wp2_with fail
          go_roundw
          case rel => exact ⟨k + 1, by omega, by go_num, by go_num, HR15, q15⟩
          case measure => simp [intOf]; omega
      · obtain rfl : k = recs.length := by omega
        have hR1 := hR
        rw [List.take_of_length_le (Nat.le_refl _)] at hR1
        go_wp2_with fail
        go_ret3
        exact ⟨_, _, rfl, q.size, heap_alloc_new _ _, recs_kept (ka (k0 _) _) hR1, ka q _⟩
  · have hlt1 : (x1 : Int) ≤ 0 := by omega
    go_wp2_with fail
    refine (CS.out _ q5).mono ?_
    rintro e w6 ⟨rfl, q6⟩
    have q6 := kt q5 q6
    clear q5
    go_wp2_with fail
    go_loopw [15, 16, 73] (fun ov av kv wr => kv = .int .u64 0 ∧ av = .int .i64 2 ∧ ov = .slice none 0 0 ∧ Kept w wr) (fun _ _ _ _ => 0)
    case atStart => exact ⟨rfl, rfl, rfl, q6⟩
    case round =>
      obtain ⟨rfl, rfl, rfl, q⟩ := hrel
      go_wp2_with fail
      go_ret3
      exact ⟨_, _, rfl, q.size, heap_alloc_new _ _, recs_nil _ _, ka q _⟩
end Go.Proofs.Ytaifnopoojbcfaa
