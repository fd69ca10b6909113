/- Identities, and slices of them, among a law's arguments. -/
import Derived.Test.YtdbmggdnbdcanaaIds
import Derived.ProofKit
import Derived.OpenShut
import Derived.Deep.Slices
namespace Go.Proofs.Ytdbmggdnbdcanaa
open Go.RowKit
open Go.ChangeShapes Go.WideShapes

def valN : List Nat → Nat
  | [] => 0
  | b :: r => b * 256 ^ r.length + valN r
theorem valN_lt : ∀ l : List Nat, (∀ b ∈ l, b < 256) → valN l < 256 ^ l.length
  | [], _ => by simp [valN]
  | b :: r, h => by
    have h1 := valN_lt r fun x hx => h x (by simp [hx])
    have h2 := h b (by simp)
    rw [valN, List.length_cons, Nat.pow_succ]
    have : b * 256 ^ r.length + 256 ^ r.length ≤ 256 ^ r.length * 256 := by
      rw [← Nat.succ_mul, Nat.mul_comm]
      exact Nat.mul_le_mul_left _ h2
    omega
theorem valN_dig : ∀ (l : List Nat) (i : Nat), (∀ b ∈ l, b < 256) → i < l.length → valN l / 256 ^ (l.length - 1 - i) % 256 = l.getD i 0
  | [], _, _, h => by simp at h
  | b :: r, 0, h, _ => by
    have h1 := valN_lt r fun x hx => h x (by simp [hx])
    have h2 := h b (by simp)
    rw [valN, List.length_cons, show r.length + 1 - 1 - 0 = r.length by omega, Nat.mul_comm, Nat.mul_add_div (Nat.pow_pos (by omega)), Nat.div_eq_of_lt h1, Nat.add_zero, Nat.mod_eq_of_lt h2]
    rfl
  | b :: r, i + 1, h, hi => by
    have hi' : i < r.length := by simpa using hi
    have h1 := valN_dig r i (fun x hx => h x (by simp [hx])) hi'
    rw [valN, List.length_cons, show r.length + 1 - 1 - (i + 1) = r.length - 1 - i by omega]
    have e : b * 256 ^ r.length = 256 ^ (r.length - 1 - i) * (256 * (b * 256 ^ i)) := by
      have : 256 ^ r.length = 256 ^ (r.length - 1 - i) * 256 * 256 ^ i := by
        rw [← Nat.pow_succ, ← Nat.pow_add]; congr 1; omega
      rw [this, Nat.mul_assoc, Nat.mul_left_comm b, Nat.mul_left_comm b]
    rw [e, Nat.mul_add_div (Nat.pow_pos (by omega)), Nat.mul_add_mod, h1]
    simp
theorem id_of_bytes (l : List Nat) (hl : l.length = 16) (h : ∀ b ∈ l, b < 256) : ∃ y : Id, idL y = l.map fun b => Value.int .u8 (b : Nat) := by
  refine ⟨BitVec.ofNat 128 (valN l), ?_⟩
  have hv := valN_lt l h
  rw [hl] at hv
  have ht : (BitVec.ofNat 128 (valN l)).toNat = valN l := by
    rw [BitVec.toNat_ofNat]; exact Nat.mod_eq_of_lt (by simpa using hv)
  apply List.ext_getElem?
  intro i
  by_cases hi : i < 16
  · rw [idL_get _ _ hi, List.getElem?_map, List.getElem?_eq_getElem (by omega), Option.map_some, byt, ht]
    have := valN_dig l i h (by omega)
    rw [hl, show 16 - 1 - i = 15 - i by omega] at this
    rw [this]
    simp [List.getD, show i < l.length by omega]
  · rw [List.getElem?_eq_none (by simp; omega), List.getElem?_eq_none (by simp; omega)]

theorem cells_id : Try.prog.cellsOf 23 = 16 := by kernel_rfl
theorem cells_byte : Try.prog.cellsOf 5 = 1 := by kernel_rfl

section
variable {H : Type} {enc : TypeId × Value → H} {w : World} {base : Nat} {spare : Nat → Bool} {held : Bool} {fuel : Nat}
theorem trod_id {cs : List Value} {x : DataW H × List MemPlace} (h : DataW.trod enc Try.prog w base spare held fuel 23 cs = some x) : ∃ y : Id, cs = idL y := by
  obtain ⟨xs, m, _, _, hl, hx, hel⟩ := DataW.trod_array Try.underlying23 h
  rw [cells_id] at hl
  rw [cells_byte] at hel
  have hb : ∀ i, i < 16 → ∃ b : Nat, b < 256 ∧ cs[i]? = some (.int .u8 (b : Nat)) := by
    intro i hi
    have h1 := hel i hi
    rw [List.getElem?_eq_getElem (by omega)] at h1
    obtain ⟨n, hn, _, hw⟩ := DataW.trod_int Try.underlying5 h1
    have hr : 0 ≤ n ∧ n ≤ 255 := by
      simp [Lit.wf, IntKind.min, IntKind.max, IntKind.signed, IntKind.bits] at hw
      omega
    refine ⟨n.toNat, by omega, ?_⟩
    have h2 : ((cs.drop (i * 1)).take 1)[0]? = some (.int .u8 n) := by rw [hn]; rfl
    rw [List.getElem?_take_of_lt (by omega), List.getElem?_drop] at h2
    rw [show i = i * 1 + 0 by omega, h2, Int.toNat_of_nonneg hr.1]
  obtain ⟨f, hf⟩ := Go.Deep.choose_lt (α := Nat) (p := fun i b => b < 256 ∧ cs[i]? = some (.int .u8 (b : Nat))) hb
  obtain ⟨y, hy⟩ := id_of_bytes ((List.range 16).map f) (by simp) (fun b hb => by
    obtain ⟨i, hi, rfl⟩ := List.mem_map.1 hb
    exact (hf i (by simpa using hi)).1)
  refine ⟨y, ?_⟩
  rw [hy]
  apply List.ext_getElem?
  intro i
  by_cases hi : i < 16
  · rw [(hf i hi).2]
    simp [hi]
  · rw [List.getElem?_eq_none (by omega), List.getElem?_eq_none (by simp; omega)]

theorem rowAt_of_cells {b o k : Nat} {L : List Value} (hL : L.length = k) (hk : 0 < k) (h : ∀ j, j < k → w.cell? ⟨b, o + j, none⟩ = L[j]?) : rowAt w b o k = some L := by
  have h0 := h 0 hk
  rw [List.getElem?_eq_getElem (by omega)] at h0
  unfold World.cell? at h0 h
  unfold rowAt
  cases hb : w.heap[b]? with
  | none => simp [hb] at h0
  | some ob =>
    cases ob with
    | cells c t fr =>
      simp [hb] at h
      have hc : ∀ j, j < k → c[o + j]? = L[j]? := h
      have hsz : o + k ≤ c.size := by
        have := hc (k - 1) (by omega)
        rw [List.getElem?_eq_getElem (by omega)] at this
        have := (Array.getElem?_eq_some_iff.1 this).1
        omega
      simp only
      rw [if_pos hsz]
      congr 1
      apply List.ext_getElem?
      intro j
      by_cases hj : j < k
      · rw [List.getElem?_take_of_lt hj, List.getElem?_drop, Array.getElem?_toList, hc j hj]
      · rw [List.getElem?_eq_none (by simp; omega), List.getElem?_eq_none (by omega)]
    | _ => simp [hb] at h0

theorem trod_ids {v : Value} {x : DataW H} {p : List MemPlace} (hv : ∃ a len cap, v = .slice a len cap) (h : DataW.Trod enc Try.prog w base spare held 24 v x p) :
    ∃ l : List Id, IdsV w v l ∧ ∀ ao n cap, v = .slice ao n cap → n ≤ cap := by
  obtain ⟨fuel, hf⟩ := h
  obtain ⟨a0, len0, cap0, rfl⟩ := hv
  rcases Go.Deep.open_slice Try.underlying24 hf with ⟨hcs, _⟩ | ⟨a, len, cap, m, n, D, Pl, hcs, _, hl, _, hm, _, hx⟩
  · simp [Value.cells] at hcs
    obtain ⟨rfl, rfl, rfl⟩ := hcs
    exact ⟨[], idsV_nil w, fun ao n cap e => by simp at e; omega⟩
  · simp [Value.cells] at hcs
    obtain ⟨rfl, rfl, rfl⟩ := hcs
    have hlc : ∀ ao n cap, Value.slice (some a) len0 cap0 = .slice ao n cap → n ≤ cap := fun ao n cap e => by
      simp only [Value.slice.injEq] at e
      omega
    by_cases h0 : len0 = 0
    · subst h0
      exact ⟨[], .inl ⟨some a, cap0, rfl, by simp, rfl⟩, hlc⟩
    · have hlm : len0 ≤ m := by rw [hm]; split <;> omega
      have hy : ∀ i, i < len0 → ∃ y : Id, ∀ j, j < 16 → w.cell? ((a.add (i * 16)).add j) = (idL y)[j]? := by
        intro i hi
        obtain ⟨cs', h1, h2⟩ := hx i (by omega)
        rw [cells_id] at h1
        obtain ⟨y, rfl⟩ := trod_id h2
        exact ⟨y, (World.cells?_some h1).2.2⟩
      obtain ⟨f, hf⟩ := Go.Deep.choose_lt (α := Id) (p := fun i y => ∀ j, j < 16 → w.cell? ((a.add (i * 16)).add j) = (idL y)[j]?) hy
      obtain ⟨b, off, spot⟩ := a
      have hs : spot = none := by
        have h3 := hf 0 (by omega) 0 (by omega)
        rw [idL_get _ _ (by omega)] at h3
        cases spot with
        | none => rfl
        | some s =>
          exfalso
          unfold World.cell? at h3
          split at h3
          · simp [Addr.add] at h3
          · cases h3
      subst hs
      refine ⟨(List.range len0).map f, .inr ⟨b, off, cap0, by simp, fun i hi => ?_⟩, hlc⟩
      have hi' : i < len0 := by simpa using hi
      have e : ((List.range len0).map f).getD i 0 = f i := by simp [List.getD, hi']
      rw [e]
      refine rowAt_of_cells (idL_length _) (by omega) fun j hj => ?_
      have := hf i hi' j hj
      rwa [Addr.add_lit, Addr.add_lit] at this
end
end Go.Proofs.Ytdbmggdnbdcanaa
