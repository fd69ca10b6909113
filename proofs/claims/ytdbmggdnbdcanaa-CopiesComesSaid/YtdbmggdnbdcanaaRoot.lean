/- The program's Root. -/
import Derived.Test.YtdbmggdnbdcanaaROwed
import Derived.Test.YtdbmggdnbdcanaaLoose
import Derived.ArgAppend
namespace Go.Proofs.Ytdbmggdnbdcanaa
open Go.RowKit
open BigFrame

theorem own_full {w w' : World} {g : Nat} {l : List Id} (h : Own w g l.length l) (h' : Own w' g l.length l) : w'.heap[g]? = w.heap[g]? := by
  obtain ⟨c, h1, h2, _, _, h5⟩ := h
  obtain ⟨c', g1, g2, _, _, g5⟩ := h'
  have e1 : c.toList = flat l := by rw [← h5, List.take_of_length_le (by rw [Array.length_toList]; omega)]
  have e2 : c'.toList = flat l := by rw [← g5, List.take_of_length_le (by rw [Array.length_toList]; omega)]
  have : c' = c := Array.toList_inj.1 (by rw [e1, e2])
  rw [h1, g1, this]

theorem app_empty {w : World} {g : Nat} {l : List Id} (ty : TypeId) (hown : Own w g l.length l) (ad : Addr) (cap : Nat) :
    ∃ w', (Builtin.append_ #[24, 24] ty #[.slice (some ⟨g, 0, none⟩) l.length l.length, .slice (some ad) 0 cap]).run Try.prog w = .ok (.slice (some ⟨g, 0, none⟩) l.length l.length) w' ∧ IdsV w' (.slice (some ⟨g, 0, none⟩) l.length l.length) l ∧ Kept w w' := by
  obtain ⟨i0, hi, hz0, hz1, hz2⟩ := info_parts info_id
  have hV : OwnV w 0 (.slice (some ⟨g, 0, none⟩) l.length l.length) l := .inr ⟨g, l.length, rfl, Nat.zero_le _, hown⟩
  have hrow := ownV_row.1 hV
  obtain ⟨w', h1, h2, h3⟩ := run_append_fits (P := Try.prog) w 0 24 ty 23 i0 16 Try.underlying24 hi hz1 g l.length l.length (flat l) hrow ad 0 cap [] rfl (by intro j u hu; simp at hu) (by intro u hu; cases hu) (by omega)
  have h2' : OwnV w' 0 (.slice (some ⟨g, 0, none⟩) l.length l.length) l := ownV_row.2 (by simpa using h2)
  refine ⟨w', h1, ownV_ids h2', h3.os, h3.tape, h3.output, h3.size, fun k hk => ?_⟩
  by_cases hkg : k = g
  · subst hkg
    refine own_full hown ?_
    rcases h2' with ⟨e, _⟩ | ⟨g', cap', e, _, ho⟩
    · cases e
    · simp at e
      obtain ⟨rfl, rfl⟩ := e
      exact ho
  · exact h3.block k hk (by simpa using hkg)

theorem run_app_full {w : World} {g : Nat} {l m : List Id} {src : Value} (ty : TypeId) (hown : Own w g l.length l) (hsrc : IdsV w src m) (hlen : l.length + m.length ≤ 8796093022208) :
    ∃ v' w', (Builtin.append_ #[24, 24] ty #[.slice (some ⟨g, 0, none⟩) l.length l.length, src]).run Try.prog w = .ok v' w' ∧ IdsV w' v' (l ++ m) ∧ Kept w w' := by
  obtain ⟨i0, hi, hz0, hz1, hz2⟩ := info_parts info_id
  have hV : OwnV w 0 (.slice (some ⟨g, 0, none⟩) l.length l.length) l := .inr ⟨g, l.length, rfl, Nat.zero_le _, hown⟩
  have hrow := ownV_row.1 hV
  rcases hsrc with ⟨ao, cap, rfl, hao, rfl⟩ | ⟨b, off, cap, rfl, hr⟩
  · cases ao with
    | some ad =>
      obtain ⟨w', h1, h2, h3⟩ := app_empty ty hown ad cap
      exact ⟨_, w', h1, by simpa using h2, h3⟩
    | none =>
    obtain rfl := hao rfl
    refine ⟨_, w, run_append_owned_none (P := Try.prog) (w := w) 0 _ ty 23 i0 16 Try.underlying24 hi _ _ _ hrow, ?_, k0 w⟩
    simpa using ownV_ids hV
  · by_cases hm : m.length = 0
    · have hm' := List.eq_nil_of_length_eq_zero hm
      subst hm'
      obtain ⟨w', h1, h2, h3⟩ := app_empty ty hown ⟨b, off, none⟩ cap
      exact ⟨_, w', h1, by simpa using h2, h3⟩
    · obtain ⟨v', w', h1, h2, h3⟩ := run_append_arg_grows (P := Try.prog) w 24 ty 23 i0 _ 16 16 Try.underlying24 hi hz0 hz1 hz2 rfl (by decide) ⟨g, 0, none⟩ l.length l.length (flat l) (flat_length l)
        (by intro j u hu; rw [Addr.add_lit]; exact ids_cells (own_ids hown) j u hu) ⟨b, off, none⟩ m.length cap (flat m) (flat_length m) (by intro j u hu; rw [Addr.add_lit]; exact ids_cells hr j u hu) (by omega) (by unfold maxLen; omega) (by omega)
      refine ⟨v', w', h1, ?_, h3.os, h3.tape, h3.output, h3.size, fun k hk => h3.block k hk (by simp)⟩
      rw [← List.length_append, ← flat_append] at h2
      exact ownV_ids (ownV_row.2 h2)

theorem wp_app_full {o : Oper} {a : Act} {w : World} {K : Act → World → Prop} {Q : Exit → Act → World → Prop} (s x : Operand) (ho : o.op = .call { callee := .builtin .append, args := #[s, x], argTypes := #[24, 24] })
    {g n : Nat} {l m : List Id} {src : Value} (hs : a.eval s = .slice (some ⟨g, 0, none⟩) n n) (hx : a.eval x = src) (hn : l.length = n) (hown : Own w g n l) (hsrc : IdsV w src m) (hlen : l.length + m.length ≤ 8796093022208)
    (h : ∀ v' w', IdsV w' v' (l ++ m) → Kept w w' → K (a.put o.dst v') w') : o.wp Try.prog a w K Q := by
  subst hn
  obtain ⟨v', w', hr, h2, h3⟩ := run_app_full o.type hown hsrc hlen
  unfold Oper.wp execOp
  simp only [ho, resolve, invoke, builtin, Sem.run_bind, Sem.run_pure, Result.andThen_ok, List.map_toArray, List.map_cons, List.map_nil, hs, hx, hr]
  exact h v' w' h2 h3

def rootDs (self key : Id) (fr : List Id) (v : Value) : Nat → Value → World → Prop := fun t x W' =>
  match t with
  | 7 => x = .agg (idL key).toArray
  | 8 => x = .agg (idL self).toArray
  | 9 => ∃ g, x = .slice (some ⟨g, 0, none⟩) 1 1 ∧ Own W' g 1 [self]
  | 10 => x = v
  | 11 => IdsV W' x (self :: fr)
  | 12 => x = .int .i64 (bestI key (self :: fr) (self :: fr).length)
  | 13 => x = .bool (decide (bestI key (self :: fr) (self :: fr).length = 0))
  | 6 => x = .bool (decide (bestI key (self :: fr) (self :: fr).length = 0))
  | _ => True

set_option maxHeartbeats 6400000 in
theorem root_any (self : Id) (v : Value) (key : Id) (l : List Id) (w : World) (hv : IdsV w v l) (hl : l.length ≤ 4000000000) :
    Calls Try.prog 9 #[.agg (idL self).toArray, v, .agg (idL key).toArray] w fun e w' => e = .returned (.bool (decide (bestI key (self :: l) (self :: l).length = 0))) ∧ Kept w w' := by
  go_enter Try.func9, Try.ntmps9
  go_wp2_with fail
  refine wp_any_world (fun W => Kept w W ∧ rowAt W w.heap.size 0 16 = some (idL self) ∧ rowAt W (w.heap.size + 1) 0 16 = some (idL key)) ⟨ka (ka (k0 w) _) _, by go_simp, by go_simp⟩ ?_
  rintro W ⟨q, r1, r2⟩
  have hv1 := idsV_kept q hv
  refine wp_region_loose (rootDs self key l v) ?mk (by kernel_rfl) (by kernel_rfl) ?hmk ?hmono ?hstep ?hQ
  case hmk =>
    intro f
    simp only [mkOf, List.foldl, Act.put, List.setIfInBounds_toArray, List.set_cons_zero, List.set_cons_succ]
    rfl
  case hmono =>
    intro t x W1 W2 h hk
    unfold rootDs at h ⊢
    split <;> simp only at h ⊢
    case h_1 | h_2 | h_4 | h_6 | h_7 | h_8 => exact h
    · obtain ⟨g, h1, h2⟩ := h
      exact ⟨g, h1, own_same h2 (hk.block g (own_lt h2))⟩
    · exact idsV_kept hk h
  case hstep =>
    refine ⟨?s0, ?s1, ?s2, ?s3, ?s4, ?s5, ?s6, ?s7, trivial⟩
    case s0 =>
      intro f W2 hk hd
      rw [if_pos (by kernel_rfl)]
      intro K hK
      have r := rowAt_below hk r2
      go_simp
      exact hK _ _ ⟨.agg (idL key).toArray, by simp [Act.put], k0 _, fun t ht => by obtain rfl := Option.some.inj ht; rfl⟩
    case s1 =>
      intro f W2 hk hd
      rw [if_pos (by kernel_rfl)]
      intro K hK
      have r := rowAt_below hk r1
      go_simp
      exact hK _ _ ⟨.agg (idL self).toArray, by simp [Act.put], k0 _, fun t ht => by obtain rfl := Option.some.inj ht; rfl⟩
    case s2 =>
      intro f W2 hk hd
      have h8 : f 8 = _ := dep hd 8 (by kernel_rfl)
      rw [if_pos (by kernel_rfl)]
      intro K hK
      go_simp
      exact hK _ _ ⟨.slice (some ⟨W2.heap.size, 0, none⟩) 1 1, by simp [Act.put, h8], ka (k0 _) _, fun t ht => by obtain rfl := Option.some.inj ht; exact ⟨_, rfl, own_made1 _ _⟩⟩
    case s3 =>
      intro f W2 hk hd
      rw [if_pos (by kernel_rfl)]
      intro K hK
      go_simp
      exact hK _ _ ⟨v, by simp [Act.put], k0 _, fun t ht => by obtain rfl := Option.some.inj ht; rfl⟩
    case s4 =>
      intro f W2 hk hd
      obtain ⟨g, h9, ho⟩ : ∃ g, f 9 = .slice (some ⟨g, 0, none⟩) 1 1 ∧ Own W2 g 1 [self] := dep hd 9 (by kernel_rfl)
      have h10 : f 10 = _ := dep hd 10 (by kernel_rfl)
      rw [if_pos (by kernel_rfl)]
      intro K hK
      refine wp_app_full (.tmp 9) (.tmp 10) rfl h9 h10 (l := [self]) rfl ho (idsV_kept hk hv1) (by rw [List.length_singleton]; omega) ?_
      intro v' w' hi hkk
      exact hK _ _ ⟨v', rfl, hkk, fun t ht => by obtain rfl := Option.some.inj ht; exact hi⟩
    case s5 =>
      intro f W2 hk hd
      have h7 : f 7 = _ := dep hd 7 (by kernel_rfl)
      have h11 : IdsV W2 (f 11) (self :: l) := dep hd 11 (by kernel_rfl)
      rw [if_pos (by kernel_rfl)]
      intro K hK
      have L := best_any key (f 11) (self :: l) W2 h11 (by rw [List.length_cons]; omega)
      have D : ∀ x W', x = Value.int .i64 (bestI key (self :: l) (self :: l).length) → rootDs self key l v 12 x W' := fun x W' h => h
      generalize bestI key (self :: l) (self :: l).length = r at L D
      go_simp
      refine L.mono ?_
      rintro e w' ⟨rfl, hkk⟩
      exact hK _ _ ⟨.int .i64 r, by simp [Act.put, h7], hkk, fun t ht => by obtain rfl := Option.some.inj ht; exact D _ _ rfl⟩
    case s6 =>
      intro f W2 hk hd
      have h12 : f 12 = Value.int .i64 (bestI key (self :: l) (self :: l).length) := dep hd 12 (by kernel_rfl)
      rw [if_pos (by kernel_rfl)]
      intro K hK
      have D : ∀ x W', x = Value.bool (decide (bestI key (self :: l) (self :: l).length = 0)) → rootDs self key l v 13 x W' := fun x W' h => h
      generalize bestI key (self :: l) (self :: l).length = r at h12 D
      go_simp
      exact hK _ _ ⟨.bool (decide (r = 0)), by simp [Act.put, h12]; rfl, k0 _, fun t ht => by obtain rfl := Option.some.inj ht; exact D _ _ rfl⟩
    case s7 =>
      intro f W2 hk hd
      have h13 : f 13 = Value.bool (decide (bestI key (self :: l) (self :: l).length = 0)) := dep hd 13 (by kernel_rfl)
      rw [if_pos (by kernel_rfl)]
      intro K hK
      have D : ∀ x W', x = Value.bool (decide (bestI key (self :: l) (self :: l).length = 0)) → rootDs self key l v 6 x W' := fun x W' h => h
      generalize decide (bestI key (self :: l) (self :: l).length = 0) = r at h13 D
      go_simp
      exact hK _ _ ⟨.bool r, by simp [Act.put, h13], k0 _, fun t ht => by obtain rfl := Option.some.inj ht; exact D _ _ rfl⟩
  case hQ =>
    intro f W2 hk hd
    have h6 : f 6 = Value.bool (decide (bestI key (self :: l) (self :: l).length = 0)) := hd 6 (dst_of (by kernel_rfl))
    go_wp2_with fail
    go_ret
    exact ⟨congrArg Ending.returned h6, kt q hk⟩
end Go.Proofs.Ytdbmggdnbdcanaa
