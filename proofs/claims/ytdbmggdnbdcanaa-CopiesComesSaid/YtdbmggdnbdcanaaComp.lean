/- slices.Compact. -/
import Derived.Test.YtdbmggdnbdcanaaDel3
namespace Go.Proofs.Ytdbmggdnbdcanaa
open Go.RowKit
open BigFrame

/-- The first n, equal neighbours once. -/
def uniqN (l : List Id) : Nat → List Id
  | 0 => []
  | n + 1 => if 0 < n ∧ l.getD n 0 = l.getD (n - 1) 0 then uniqN l n else uniqN l n ++ [l.getD n 0]

set_option maxHeartbeats 6400000 in
theorem compact_any (B : Nat) (v : Value) (l : List Id) (w : World) (hv : OwnV w B v l) (hB : B ≤ w.heap.size) (hl : l.length ≤ 4611686018427387904) :
    Calls Try.prog 31 #[v] w fun e w' => ∃ v', e = .returned v' ∧ OwnV w' B v' (uniqN l l.length) ∧ Below B w w' := by
  rcases hv with ⟨rfl, rfl⟩ | ⟨g, cap, rfl, hg, hown⟩
  · go_enter Try.func31, Try.ntmps31
    go_wp2_with fail
    go_ret
    exact ⟨_, rfl, .inl ⟨rfl, rfl⟩, Below.refl _ _⟩
  have hcap := (own_cap hown).1
  by_cases h2 : l.length < 2
  · have hu : uniqN l l.length = l := by
      match l, h2 with
      | [], _ => rfl
      | [x], _ => rfl
    rw [hu]
    have h2' : (l.length : Int) < 2 := by omega
    clear hu
    go_enter Try.func31, Try.ntmps31
    go_wp2_with fail
    go_ret
    exact ⟨_, rfl, .inr ⟨g, cap, rfl, hg, hown⟩, Below.refl _ _⟩
  have h2' : ¬ (l.length : Int) < 2 := by omega
  obtain ⟨res, hres⟩ : ∃ res, uniqN l l.length = res := ⟨_, rfl⟩
  rw [hres]
  have hres' := Lib.hid hres
  clear hres
  go_enter Try.func31, Try.ntmps31
  go_wp2_with fail
  go_loopw [3] (fun kv wr => ∃ p : Nat, kv = .int .i64 ((p : Int) + 1) ∧ p + 1 ≤ l.length ∧ Hid (uniqN l (p + 1) = l.take (p + 1)) ∧ Kept w wr) (fun kv _ => l.length - (intOf kv).toNat)
  case atStart =>
    refine ⟨0, rfl, by omega, ?_, k0 _⟩
    rw [Hid, uniqN, if_neg (by omega), uniqN]
    match l, h2 with
    | [], h => simp at h
    | x :: r, _ => simp
  case round =>
    obtain ⟨p, rfl, hp, H, q⟩ := hrel
    have ho := own_kept q hown
    by_cases hlt : p + 1 < l.length
    · have r1 : rowAt wr g ((p + 1) * 16) 16 = some (idL l[p + 1]) := by have := own_row ho hlt; simpa [List.getD, hlt] using this
      have hlt2 : p < l.length := by omega
      have r2 : rowAt wr g (p * 16) 16 = some (idL l[p]) := by have := own_row ho hlt2; simpa [List.getD, hlt2] using this
      have p1 : ((p : Int) + 1) < (l.length : Int) := by omega
      have p2 : (p : Int) < (l.length : Int) := by omega
      go_wp2_with fail
      go_quiet (fail)
      have ane : ¬ cap = p + 1 := by omega
      have apc : p + 1 ≤ cap := by omega
      go_wp2_with fail
      · have h : (l[p + 1] == l[p]) = true := by assumption
        have hst : uniqN l (p + 1 + 0 + 1) = l.take (p + 1) := by
          rw [Hid] at H
          have hh : l.getD (p + 1 + 0) 0 = l.getD (p + 1 + 0 - 1) 0 := by simpa [List.getD, hlt, hlt2] using h
          rw [uniqN, if_pos ⟨by omega, hh⟩, ← H]
        have hst' := Lib.hid hst
        have q' := kdn q nq
        clear hst H r1 r2 ho
        go_loopw [3, 5] (fun kv qv wr => ∃ (i q : Nat) (cur : List Id), kv = .int .i64 i ∧ qv = .int .i64 ((q : Int) + 1) ∧ i ≤ p + 1 + q ∧ p + 1 + q + 1 ≤ l.length ∧ cur.length = l.length ∧ Hid (cur.take i = uniqN l (p + 1 + q + 1)) ∧ Hid (cur.drop (p + 1 + q) = l.drop (p + 1 + q)) ∧ Own wr g cap cur ∧ Below B w wr) (fun _ qv _ => l.length - (intOf qv).toNat)
        case atStart => exact ⟨p + 1, 0, l, by simp, by simp, by omega, by omega, rfl, by rw [Hid, hst'.out], rfl, own_kept q' hown, q'.mono hB⟩
        case round =>
          obtain ⟨i, q, cur, rfl, rfl, hiq, hql, hlen, H1, H2, ho, hb⟩ := hrel
          have dq : (((l.length - (p + 1) : Nat)) : Int) = (l.length : Int) - ((p : Int) + 1) := by omega
          have dq' := Lib.hid dq
          clear dq
          have j3 : i < l.length := by omega
          have j4 : (i : Int) < (l.length : Int) := by omega
          by_cases hq2 : q + 1 < l.length - (p + 1)
          · have e1 : cur.getD (p + 1 + q) 0 = l.getD (p + 1 + q) 0 := by
              have h1 : (cur.drop (p + 1 + q))[0]? = (l.drop (p + 1 + q))[0]? := by rw [Hid] at H2; rw [H2]
              simpa [List.getD] using congrArg (fun o => o.getD 0) h1
            have e2 : cur.getD (p + 1 + (q + 1)) 0 = l.getD (p + 1 + (q + 1)) 0 := by
              have h1 : (cur.drop (p + 1 + q))[1]? = (l.drop (p + 1 + q))[1]? := by rw [Hid] at H2; rw [H2]
              simpa [List.getD, Nat.add_assoc] using congrArg (fun o => o.getD 0) h1
            obtain ⟨x, hx⟩ : ∃ x, l.getD (p + 1 + (q + 1)) 0 = x := ⟨_, rfl⟩
            obtain ⟨y, hy⟩ : ∃ y, l.getD (p + 1 + q) 0 = y := ⟨_, rfl⟩
            have r1 : rowAt wr g ((p + 1) * 16 + (q + 1) * 16) 16 = some (idL x) := by
              rw [← hx, ← e2, ← Nat.add_mul]; exact own_row ho (by omega)
            have r2 : rowAt wr g ((p + 1) * 16 + q * 16) 16 = some (idL y) := by
              rw [← hy, ← e1, ← Nat.add_mul]; exact own_row ho (by omega)
            have hu : uniqN l (p + 1 + (q + 1) + 1) = if x = y then uniqN l (p + 1 + q + 1) else uniqN l (p + 1 + q + 1) ++ [x] := by
              rw [uniqN, hx, show p + 1 + (q + 1) - 1 = p + 1 + q by omega, hy]
              by_cases hxy : x = y
              · rw [if_pos ⟨by omega, hxy⟩, if_pos hxy]; rfl
              · rw [if_neg (fun hh => hxy hh.2), if_neg hxy]; rfl
            have hu' := Lib.hid hu
            have c1 : canPut wr g (i * 16) 16 = true := own_put ho (by omega)
            have i1 : ((q : Int) + 1) < ((l.length - (p + 1) : Nat) : Int) := by omega
            have i2 : (q : Int) < ((l.length - (p + 1) : Nat) : Int) := by omega
            have i3 : q < l.length - (p + 1) := by omega
            clear hu e1 e2 hx hy
            go_wp2_with fail
            go_quiet (fail)
            go_wp2_with fail
            · have h : (x != y) = true := by assumption
              go_roundw
              case rel =>
                refine ⟨i + 1, q + 1, cur.set i x, by simp, by simp, by omega, by omega, by rw [List.length_set, hlen], ?_, ?_, ?_, ?_⟩
                · have := hu'.out
                  rw [if_neg (by simpa using h)] at this
                  rw [Hid] at H1 ⊢
                  rw [this, ← H1, List.take_set, List.take_succ_eq_append_getElem (by omega), List.set_append, if_neg (by rw [List.length_take]; omega)]
                  congr 1
                  rw [List.length_take, show i - min i cur.length = 0 by omega]
                  rfl
                · rw [Hid] at H2 ⊢
                  rw [List.drop_set_of_lt (by omega), show p + 1 + (q + 1) = p + 1 + q + 1 by omega, ← List.drop_drop, H2, List.drop_drop]
                · exact own_set (own_kept (kdn (k0 _) _) ho) (by omega) _
                · exact below_putRow (bl_kept hb hB (kdn (k0 _) _)) hg _ _
              case measure => simp [intOf]; omega
            · have h : (x != y) = false := by assumption
              go_roundw
              case rel =>
                refine ⟨i, q + 1, cur, rfl, by simp, by omega, by omega, hlen, ?_, ?_, own_kept (kdn (k0 _) _) ho, bl_kept hb hB (kdn (k0 _) _)⟩
                · have := hu'.out
                  rw [if_pos (by simpa using h)] at this
                  rw [Hid] at H1 ⊢
                  rw [this, H1]
                · rw [Hid] at H2 ⊢
                  rw [show p + 1 + (q + 1) = p + 1 + q + 1 by omega, ← List.drop_drop, H2, List.drop_drop]
              case measure => simp [intOf]; omega
          · have hql' : p + 1 + q + 1 = l.length := by omega
            have ni : ¬ ((q : Int) + 1) < ((l.length - (p + 1) : Nat) : Int) := by omega
            have anei : ¬ cap = i := by omega
            have aic : i ≤ cap := by omega
            have hfin : cur.take i = res := by
              rw [Hid] at H1
              rw [H1, hql']
              exact hres'.out
            have hfin' := Lib.hid hfin
            have hql2 := Lib.hid hql'
            clear hfin hql'
            obtain ⟨Z, hcl, hoz⟩ := run_clear_ids g i (l.length - i) (cap - i) cap cur (by omega) ho (by omega)
            have hbz := below_putRow hb hg (i * 16) Z
            go_wp2_with fail
            go_ret
            have hfin := hfin'.out
            have hil2 : i = res.length := by rw [← hfin, List.length_take]; omega
            rw [hfin] at hoz
            refine ⟨_, rfl, .inr ⟨g, cap, ?_, hg, hoz⟩, hbz⟩
            simp [hil2]
      · have h : (l[p + 1] == l[p]) = false := by assumption
        go_roundw
        case rel =>
          refine ⟨p + 1, by simp, by omega, ?_, kdn q _⟩
          rw [Hid] at H ⊢
          rw [uniqN, if_neg, H]
          · simp [List.getD, hlt]
          · rintro ⟨_, hh⟩
            simp [List.getD, hlt, hlt2] at hh
            simp [hh] at h
        case measure => simp [intOf]; omega
    · have hpl : p + 1 = l.length := by omega
      have np : ¬ ((p : Int) + 1) < (l.length : Int) := by omega
      have hfin : l = res := by
        rw [Hid] at H
        rw [← hres'.out, ← hpl, H, hpl, List.take_length]
      have hfin' := Lib.hid hfin
      clear hfin hpl
      go_wp2_with fail
      go_ret
      rw [← hfin'.out]
      exact ⟨_, rfl, .inr ⟨g, cap, rfl, hg, ho⟩, q.mono hB⟩
end Go.Proofs.Ytdbmggdnbdcanaa
