/- An item, a version, among a law's arguments. -/
import Derived.Test.YtaifnopoojbcfaaForms
import Derived.Test.YtaifnopoojbcfaaVOpen
import Derived.ProofKit
import Derived.OpenShut
import Derived.SizedLaws
import Derived.Deep.Slices
import Derived.Deep.Strs
namespace Go.Proofs.Ytaifnopoojbcfaa
open Go.RowKit
open Go.ChangeShapes Go.WideShapes

def valN : List Nat → Nat
  | [] => 0
  | b :: r => b * 256 ^ r.length + valN r
theorem valN_lt : ∀ l : List Nat, (∀ b ∈ l, b < 256) → valN l < 256 ^ l.length
  | [], _ => by simp [valN]
  | b :: r, h => by
    have h1 := valN_lt r fun x hx => h x (by simp [hx])
    have h2 := h b (by simp)
    rw [valN, List.length_cons, Nat.pow_succ]
    have : b * 256 ^ r.length + 256 ^ r.length ≤ 256 ^ r.length * 256 := by
      rw [← Nat.succ_mul, Nat.mul_comm]
      exact Nat.mul_le_mul_left _ h2
    omega
theorem valN_dig : ∀ (l : List Nat) (i : Nat), (∀ b ∈ l, b < 256) → i < l.length → valN l / 256 ^ (l.length - 1 - i) % 256 = l.getD i 0
  | [], _, _, h => by simp at h
  | b :: r, 0, h, _ => by
    have h1 := valN_lt r fun x hx => h x (by simp [hx])
    have h2 := h b (by simp)
    rw [valN, List.length_cons, show r.length + 1 - 1 - 0 = r.length by omega, Nat.mul_comm, Nat.mul_add_div (Nat.pow_pos (by omega)), Nat.div_eq_of_lt h1, Nat.add_zero, Nat.mod_eq_of_lt h2]
    rfl
  | b :: r, i + 1, h, hi => by
    have hi' : i < r.length := by simpa using hi
    have h1 := valN_dig r i (fun x hx => h x (by simp [hx])) hi'
    rw [valN, List.length_cons, show r.length + 1 - 1 - (i + 1) = r.length - 1 - i by omega]
    have e : b * 256 ^ r.length = 256 ^ (r.length - 1 - i) * (256 * (b * 256 ^ i)) := by
      have : 256 ^ r.length = 256 ^ (r.length - 1 - i) * 256 * 256 ^ i := by
        rw [← Nat.pow_succ, ← Nat.pow_add]; congr 1; omega
      rw [this, Nat.mul_assoc, Nat.mul_left_comm b, Nat.mul_left_comm b]
    rw [e, Nat.mul_add_div (Nat.pow_pos (by omega)), Nat.mul_add_mod, h1]
    simp
theorem id_of_bytes (l : List Nat) (hl : l.length = 16) (h : ∀ b ∈ l, b < 256) : ∃ y : Id, idL y = l.map fun b => Value.int .u8 (b : Nat) := by
  refine ⟨BitVec.ofNat 128 (valN l), ?_⟩
  have hv := valN_lt l h
  rw [hl] at hv
  have ht : (BitVec.ofNat 128 (valN l)).toNat = valN l := by
    rw [BitVec.toNat_ofNat]; exact Nat.mod_eq_of_lt (by simpa using hv)
  apply List.ext_getElem?
  intro i
  by_cases hi : i < 16
  · rw [idL_get _ _ hi, List.getElem?_map, List.getElem?_eq_getElem (by omega), Option.map_some, byt, ht]
    have := valN_dig l i h (by omega)
    rw [hl, show 16 - 1 - i = 15 - i by omega] at this
    rw [this]
    simp [List.getD, show i < l.length by omega]
  · rw [List.getElem?_eq_none (by simp; omega), List.getElem?_eq_none (by simp; omega)]

theorem cells_id : Try.prog.cellsOf 23 = 16 := by kernel_rfl
theorem cells_byte : Try.prog.cellsOf 5 = 1 := by kernel_rfl
theorem cells_i64 : Try.prog.cellsOf 2 = 1 := by kernel_rfl
theorem cells_ver : Try.prog.cellsOf 25 = 17 := by kernel_rfl
theorem cells_item : Try.prog.cellsOf 28 = 34 := by kernel_rfl
theorem cells_bytes : Try.prog.cellsOf 26 = 1 := by kernel_rfl

section
variable {H : Type} {enc : TypeId × Value → H} {w : World} {base : Nat} {spare : Nat → Bool} {held : Bool} {fuel : Nat}
theorem trod_id {cs : List Value} {x : DataW H × List MemPlace} (h : DataW.trod enc Try.prog w base spare held fuel 23 cs = some x) : ∃ y : Id, cs = idL y := by
  obtain ⟨xs, m, _, _, hl, hx, hel⟩ := DataW.trod_array Try.underlying23 h
  rw [cells_id] at hl
  rw [cells_byte] at hel
  have hb : ∀ i, i < 16 → ∃ b : Nat, b < 256 ∧ cs[i]? = some (.int .u8 (b : Nat)) := by
    intro i hi
    have h1 := hel i hi
    rw [List.getElem?_eq_getElem (by omega)] at h1
    obtain ⟨n, hn, _, hw⟩ := DataW.trod_int Try.underlying5 h1
    have hr : 0 ≤ n ∧ n ≤ 255 := by
      simp [Lit.wf, IntKind.min, IntKind.max, IntKind.signed, IntKind.bits] at hw
      omega
    refine ⟨n.toNat, by omega, ?_⟩
    have h2 : ((cs.drop (i * 1)).take 1)[0]? = some (.int .u8 n) := by rw [hn]; rfl
    rw [List.getElem?_take_of_lt (by omega), List.getElem?_drop] at h2
    rw [show i = i * 1 + 0 by omega, h2, Int.toNat_of_nonneg hr.1]
  obtain ⟨f, hf⟩ := Go.Deep.choose_lt (α := Nat) (p := fun i b => b < 256 ∧ cs[i]? = some (.int .u8 (b : Nat))) hb
  obtain ⟨y, hy⟩ := id_of_bytes ((List.range 16).map f) (by simp) (fun b hb => by
    obtain ⟨i, hi, rfl⟩ := List.mem_map.1 hb
    exact (hf i (by simpa using hi)).1)
  refine ⟨y, ?_⟩
  rw [hy]
  apply List.ext_getElem?
  intro i
  by_cases hi : i < 16
  · rw [(hf i hi).2]
    simp [hi]
  · rw [List.getElem?_eq_none (by omega), List.getElem?_eq_none (by simp; omega)]

theorem trod_ver {cs : List Value} {x : DataW H × List MemPlace} (h : DataW.trod enc Try.prog w base spare held fuel 25 cs = some x) : ∃ (N : Int) (who : Id), cs = verL ⟨N, who⟩ ∧ N ≤ 9223372036854775807 := by
  obtain ⟨y0, y1, n, rfl, hl, h0, h1⟩ := trod_struct2 Try.underlying25 h
  rw [cells_ver] at hl
  obtain ⟨N, hN, _, hw⟩ := DataW.trod_int Try.underlying2 h0
  obtain ⟨who, hwho⟩ := trod_id h1
  have hr : N ≤ 9223372036854775807 := by
    simp [Lit.wf, IntKind.min, IntKind.max, IntKind.signed, IntKind.bits] at hw
    omega
  refine ⟨N, who, ?_, hr⟩
  rw [cells_i64] at hN
  rw [cells_id] at hwho
  have e : cs = (cs.drop 0).take 1 ++ (cs.drop 1).take 16 := by
    rw [List.drop_zero, ← List.take_add]
    exact (List.take_of_length_le (by omega)).symm
  rw [e]
  show _ = Value.int .i64 N :: idL who
  rw [← hwho]
  have hN' : (cs.drop 0).take 1 = [Value.int .i64 N] := hN
  rw [hN']
  rfl

theorem trod_bytes {cs : List Value} {x : DataW H × List MemPlace} (h : DataW.trod enc Try.prog w base spare held fuel 26 cs = some x) :
    ∃ (v : Value) (t : List UInt8), cs = [v] ∧ ElV w v (bL t) ∧ (t = [] ∨ ∃ el sp, x.1 = .slice el sp ∧ t.length ≤ el.length) := by
  rcases Go.Deep.open_slice1 Try.underlying26 cells_byte h with ⟨rfl, _⟩ | ⟨a, len0, cap0, m, n, V, D, Pl, rfl, _, hl, hmx, hm, rfl, hx⟩
  · exact ⟨_, [], rfl, elV_nil w, .inl rfl⟩
  · refine ⟨.slice (some a) len0 cap0, ?_⟩
    by_cases h0 : len0 = 0
    · subst h0
      exact ⟨[], rfl, .inl ⟨some a, cap0, rfl, by simp, rfl⟩, .inl rfl⟩
    · have hlm : len0 ≤ m := by rw [hm]; split <;> omega
      have hy : ∀ i, i < len0 → ∃ z : UInt8, w.cell? (a.add i) = some (bC z) := by
        intro i hi
        obtain ⟨h1, h2⟩ := hx i (by omega)
        obtain ⟨z, hz, _, hw⟩ := DataW.trod_int Try.underlying5 h2
        simp only [List.cons.injEq, and_true] at hz
        have hr : 0 ≤ z ∧ z ≤ 255 := by
          simp [Lit.wf, IntKind.min, IntKind.max, IntKind.signed, IntKind.bits] at hw
          omega
        refine ⟨UInt8.ofNat z.toNat, ?_⟩
        rw [h1, hz]
        have : (UInt8.ofNat z.toNat).toNat = z.toNat := by
          rw [UInt8.toNat_ofNat']
          omega
        unfold bC
        rw [this, Int.toNat_of_nonneg hr.1]
      obtain ⟨f, hf⟩ := Go.Deep.choose_lt (α := UInt8) (p := fun i z => w.cell? (a.add i) = some (bC z)) hy
      obtain ⟨b, off, spot⟩ := a
      have hs : spot = none := by
        have h3 := hf 0 (by omega)
        cases spot with
        | none => rfl
        | some s =>
          exfalso
          unfold World.cell? at h3
          split at h3
          · simp [Addr.add, bC] at h3
          · cases h3
      subst hs
      refine ⟨(List.range len0).map f, rfl, .inr ⟨b, off, cap0, by simp, by simpa using hl, fun j u hu => ?_⟩, .inr ⟨_, _, rfl, by simp⟩⟩
      have hj : j < len0 := by
        have := (List.getElem?_eq_some_iff.1 hu).1
        simpa using this
      have := hf j hj
      rw [Addr.add_lit] at this
      rw [this]
      simpa [bL, hj] using hu

theorem trod_item {cs : List Value} {x : DataW H × List MemPlace} (h : DataW.trod enc Try.prog w base spare held fuel 28 cs = some x) :
    ∃ (key : Id) (N : Int) (who : Id) (s : Value) (t : List UInt8), cs = itemL ⟨key, ⟨N, who⟩, s⟩ ∧ N ≤ 9223372036854775807 ∧ ElV w s (bL t) ∧ (t = [] ∨ ∃ d0 d1 el sp, x.1 = .agg [d0, d1, .slice el sp] ∧ t.length ≤ el.length) := by
  obtain ⟨y0, y1, y2, n, rfl, hl, h0, h1, h2⟩ := Go.Deep.trod_struct3 Try.underlying28 h
  rw [cells_item] at hl
  obtain ⟨key, hkey⟩ := trod_id h0
  obtain ⟨N, who, hver, hN⟩ := trod_ver h1
  obtain ⟨s, t, hs, hE, hx⟩ := trod_bytes h2
  rw [cells_id] at hkey
  rw [cells_ver] at hver
  rw [cells_bytes] at hs
  have hkey' : (cs.drop 0).take 16 = idL key := hkey
  have hver' : (cs.drop 16).take 17 = verL ⟨N, who⟩ := hver
  have hs' : (cs.drop 33).take 1 = [s] := hs
  refine ⟨key, N, who, s, t, ?_, hN, hE, ?_⟩
  · have e : cs = (cs.drop 0).take 16 ++ ((cs.drop 16).take 17 ++ (cs.drop 33).take 1) := by
      have e1 : (cs.drop 16).take 17 ++ (cs.drop 33).take 1 = (cs.drop 16) := by
        rw [show (33 : Nat) = 16 + 17 from rfl, ← List.drop_drop, ← List.take_add]
        exact List.take_of_length_le (by simp; omega)
      rw [e1, List.drop_zero, List.take_append_drop]
    rw [e, hkey', hver', hs']
    rfl
  · rcases hx with hx | ⟨el, sp, hd, hle⟩
    · exact .inl hx
    · exact .inr ⟨_, _, el, sp, by rw [← hd], hle⟩
end

theorem open_item {H : Type} {enc : TypeId × Value → H} {w : World} {base : Nat} {spare : Nat → Bool} {held : Bool} {v : Value} {d : DataW H} {p : List MemPlace} {r : Reach} {b0 : Nat}
    (hv : Value.okWide Try.prog w r b0 28 v) (h : DataW.Trod enc Try.prog w base spare held 28 v d p) :
    ∃ (key : Id) (N : Int) (who : Id) (s : Value) (t : List UInt8), v = .agg (itemL ⟨key, ⟨N, who⟩, s⟩).toArray ∧ N ≤ 9223372036854775807 ∧ ElV w s (bL t) ∧ (t = [] ∨ ∃ d0 d1 el sp, d = .agg [d0, d1, .slice el sp] ∧ t.length ≤ el.length) := by
  simp only [Value.okWide, Try.underlying28] at hv
  obtain ⟨cs, rfl, _, _⟩ := hv
  obtain ⟨fuel, hf⟩ := h
  obtain ⟨key, N, who, s, t, hcs, h1, h2, h3⟩ := trod_item hf
  have hcs' : cs.toList = itemL ⟨key, ⟨N, who⟩, s⟩ := hcs
  exact ⟨key, N, who, s, t, by rw [← hcs'], h1, h2, h3⟩
theorem open_ver {H : Type} {enc : TypeId × Value → H} {w : World} {base : Nat} {spare : Nat → Bool} {held : Bool} {v : Value} {d : DataW H} {p : List MemPlace} {r : Reach} {b0 : Nat}
    (hv : Value.okWide Try.prog w r b0 25 v) (h : DataW.Trod enc Try.prog w base spare held 25 v d p) : ∃ a : Vr, v = .agg (verL a).toArray := by
  simp only [Value.okWide, Try.underlying25] at hv
  obtain ⟨cs, rfl, _, _⟩ := hv
  obtain ⟨fuel, hf⟩ := h
  obtain ⟨N, who, hcs, _⟩ := trod_ver hf
  have hcs' : cs.toList = verL ⟨N, who⟩ := hcs
  exact ⟨⟨N, who⟩, by rw [← hcs']⟩
/-- What the form's reach says of an item's bytes. -/
theorem reach_item {H : Type} {d0 d1 d2 d3 : DataW H} {el sp : List (DataW H)} {ts : List TypeId} (h : (DataW.weightsEach Try.prog (28 :: ts) [.agg [d0, d1, .slice el sp], d2, d3]).all (· ≤ reachBytes) = true) : el.length ≤ 140737488351232 := by
  have h1 : (el.length + sp.length) * Try.prog.bytesOf 5 ∈ DataW.weights Try.prog 26 (.slice el sp) := by simp [DataW.weights, Try.underlying26]
  have h2 : (el.length + sp.length) * Try.prog.bytesOf 5 ∈ DataW.weights Try.prog 28 (.agg [d0, d1, .slice el sp]) := by
    simp only [DataW.weights, Try.underlying28]
    exact DataW.weights_mem_each (j := 2) (t := 26) rfl rfl _ h1
  have h3 := List.all_eq_true.1 h _ (DataW.weights_mem_each (j := 0) (t := 28) rfl rfl _ h2)
  have hb : Try.prog.bytesOf 5 = 1 := by kernel_rfl
  rw [hb] at h3
  simp [reachBytes] at h3
  omega
end Go.Proofs.Ytaifnopoojbcfaa
