/- Compare by bytes is compare by numbers. -/
import Derived.Test.YtaifnopoojbcfaaKit
import Derived.Test.YtaifnopoojbcfaaIdPlain
import GoSem.Extern.BytealgCompare
import Derived.Laws.Externs
import Derived.Stop.BytesEq
namespace Go.Proofs.Ytaifnopoojbcfaa
open Go.RowKit
/-- Compare, by the numbers. -/
def cmpI (x y : Id) : Int := if x.toNat < y.toNat then -1 else if y.toNat < x.toNat then 1 else 0

theorem prefix_eq (x y : Id) : ∀ i, i ≤ 16 → (∀ j, j < i → byt x j = byt y j) → x.toNat / 256 ^ (16 - i) = y.toNat / 256 ^ (16 - i)
  | 0, _, _ => by
    have hx := x.isLt; have hy := y.isLt
    rw [Nat.div_eq_of_lt (by simpa using hx), Nat.div_eq_of_lt (by simpa using hy)]
  | i + 1, hi, h => by
    have ih := prefix_eq x y i (by omega) (fun j hj => h j (by omega))
    have hb := h i (by omega)
    unfold byt at hb
    have e1 := pow_step x.toNat (16 - i) (by omega)
    have e2 := pow_step y.toNat (16 - i) (by omega)
    rw [show 16 - i - 1 = 15 - i by omega] at e1 e2
    rw [show 16 - (i + 1) = 15 - i by omega, ← e1, ← e2, ih, hb]

theorem byt_lt_lt (x y : Id) (i : Nat) (hi : i < 16) (h : ∀ j, j < i → byt x j = byt y j) (hb : byt x i < byt y i) : x.toNat < y.toNat := by
  have ih := prefix_eq x y i (by omega) h
  unfold byt at hb
  have e1 := pow_step x.toNat (16 - i) (by omega)
  have e2 := pow_step y.toNat (16 - i) (by omega)
  rw [show 16 - i - 1 = 15 - i by omega] at e1 e2
  have : x.toNat / 256 ^ (15 - i) < y.toNat / 256 ^ (15 - i) := by rw [← e1, ← e2, ih]; omega
  exact Nat.lt_of_not_le fun hle => absurd (Nat.div_le_div_right (c := 256 ^ (15 - i)) hle) (by omega)

theorem byt_ext (x y : Id) (h : ∀ j, j < 16 → byt x j = byt y j) : x = y := by
  have := prefix_eq x y 16 (by omega) h
  apply BitVec.eq_of_toNat_eq
  simpa using this

/-- The bytes of an identity. -/
def bytA (x : Id) : ByteArray := ⟨((List.range 16).map fun i => (byt x i).toUInt8).toArray⟩
theorem bytA_size (x : Id) : (bytA x).size = 16 := by simp [bytA, ByteArray.size]
theorem bytA_get (x : Id) (i : Nat) (h : i < 16) : (bytA x)[i]! = (byt x i).toUInt8 := by
  have hs : i < (bytA x).size := by rw [bytA_size]; exact h
  rw [getElem!_pos (bytA x) i hs]
  show ((List.range 16).map fun i => (byt x i).toUInt8).toArray[i]'(by simpa using h) = _
  simp
theorem u8_lt {a b : Nat} (ha : a < 256) (hb : b < 256) : a.toUInt8 < b.toUInt8 ↔ a < b := by
  rw [UInt8.lt_iff_toNat_lt]; simp [Nat.mod_eq_of_lt ha, Nat.mod_eq_of_lt hb]
theorem u8_ne {a b : Nat} (ha : a < 256) (hb : b < 256) : a.toUInt8 = b.toUInt8 ↔ a = b := by
  constructor
  · intro h
    have := congrArg UInt8.toNat h
    simpa [Nat.mod_eq_of_lt ha, Nat.mod_eq_of_lt hb] using this
  · rintro rfl; rfl

theorem cmp_bytA (x y : Id) : Extern.BytealgCompare.cmp (bytA x) (bytA y) = cmpI x y := by
  unfold Extern.BytealgCompare.cmp
  rw [bytA_size, bytA_size]
  cases hf : (List.range (min 16 16)).find? fun i => (bytA x)[i]! != (bytA y)[i]! with
  | some i =>
    simp only []
    obtain ⟨hne, as, bs, hl, hall⟩ := List.find?_eq_some_iff_append.1 hf
    have hi : i < 16 := by
      have := List.mem_of_find?_eq_some hf
      simpa using this
    have hlt : ∀ j, j < i → byt x j = byt y j := by
      intro j hj
      have hj' : j ∈ as := by
        have hlen : as.length = i := by
          have := congrArg (fun l => l[as.length]?) hl
          simp at this
          have h2 : as.length < 16 := by
            have := congrArg List.length hl; simp at this; omega
          rw [List.getElem?_range (by simpa using h2)] at this
          simpa using this
        have : (List.range (min 16 16))[j]? = as[j]? := by rw [hl, List.getElem?_append_left (by omega)]
        rw [List.getElem?_range (by simp; omega)] at this
        exact List.mem_of_getElem? this.symm
      have := hall j hj'
      rw [bytA_get x j (by omega), bytA_get y j (by omega)] at this
      simp only [bne_eq_false_iff_eq, Bool.not_eq_eq_eq_not, Bool.not_true] at this
      exact (u8_ne (byt_lt x j) (byt_lt y j)).1 (by simpa using this)
    rw [bytA_get x i hi, bytA_get y i hi] at hne ⊢
    have hn : byt x i ≠ byt y i := by
      intro e; rw [e] at hne; simp at hne
    unfold cmpI
    by_cases hb : byt x i < byt y i
    · rw [if_pos ((u8_lt (byt_lt x i) (byt_lt y i)).2 hb), if_pos (byt_lt_lt x y i hi hlt hb)]
    · have hb' : byt y i < byt x i := by omega
      have h1 := byt_lt_lt y x i hi (fun j hj => (hlt j hj).symm) hb'
      rw [if_neg (by rw [u8_lt (byt_lt x i) (byt_lt y i)]; exact hb), if_neg (by omega), if_pos h1]
  | none =>
    simp only [Nat.lt_irrefl, if_false, gt_iff_lt]
    have : x = y := byt_ext x y fun j hj => by
      have := List.find?_eq_none.1 hf j (by simpa using hj)
      rw [bytA_get x j hj, bytA_get y j hj] at this
      exact (u8_ne (byt_lt x j) (byt_lt y j)).1 (by simpa using this)
    subst this
    unfold cmpI
    rw [if_neg (by omega), if_neg (by omega)]

theorem loadBytes_list (P : Program) (W : World) : ∀ (L : List Nat) (b o : Nat) (acc : ByteArray), (∀ j, j < L.length → W.cell? ⟨b, o + j, none⟩ = some (.int .u8 (L.getD j 0 : Nat))) → 
    (Extern.Bytes.loadBytes ⟨b, o, none⟩ L.length acc).run P W = .ok (L.foldl (fun a n => a.push n.toUInt8) acc) W
  | [], _, _, _, _ => rfl
  | n :: L, b, o, acc, h => by
    have h0 := h 0 (by simp)
    simp only [Nat.add_zero, List.getD_cons_zero] at h0
    simp only [List.length_cons, Extern.Bytes.loadBytes, Sem.run_bind]
    have : (load ⟨b, o, none⟩).run P W = .ok (.int .u8 (n : Nat)) W := by simp [load, Sem.run, h0]
    rw [this]
    simp only [Result.andThen]
    have e : (⟨b, o, none⟩ : Addr).add 1 = ⟨b, o + 1, none⟩ := by simp [Addr.add]
    rw [e, Int.toNat_natCast]
    exact loadBytes_list P W L b (o + 1) _ (fun j hj => by
      have := h (j + 1) (by simp; omega)
      rw [show o + 1 + j = o + (j + 1) by omega]; simpa using this)

theorem bytes_of_row (P : Program) (W : World) (x : Id) (b n : Nat) (h : rowAt W b 0 16 = some (idL x)) : (Extern.Bytes.bytesOf (.slice (some ⟨b, 0, none⟩) 16 n)).run P W = .ok (bytA x) W := by
  have := loadBytes_list P W ((List.range 16).map (byt x)) b 0 .empty (fun j hj => by
    have hj' : j < 16 := by simpa using hj
    have h1 := rowAt_cell h j hj'
    rw [idL_get x j hj'] at h1
    rw [h1]
    simp [List.getD, List.getElem?_range hj'])
  simp only [List.length_map, List.length_range] at this
  unfold Extern.Bytes.bytesOf
  rw [this]
  congr 1

theorem run_compare_ids (P : Program) (W : World) (x y : Id) (b1 b2 n1 n2 : Nat) (h1 : rowAt W b1 0 16 = some (idL x)) (h2 : rowAt W b2 0 16 = some (idL y)) :
    (Extern.BytealgCompare.compare #[.slice (some ⟨b1, 0, none⟩) 16 n1, .slice (some ⟨b2, 0, none⟩) 16 n2]).run P W = .ok (.int .i64 (cmpI x y)) W := by
  have e1 := bytes_of_row P W x b1 n1 h1
  have e2 := bytes_of_row P W y b2 n2 h2
  have e : Extern.BytealgCompare.compare #[.slice (some ⟨b1, 0, none⟩) 16 n1, .slice (some ⟨b2, 0, none⟩) 16 n2] = (do
      let u ← Extern.Bytes.bytesOf (.slice (some ⟨b1, 0, none⟩) 16 n1)
      let v ← Extern.Bytes.bytesOf (.slice (some ⟨b2, 0, none⟩) 16 n2)
      pure (goInt (Extern.BytealgCompare.cmp u v))) := rfl
  rw [e]
  simp only [Sem.run_bind, e1, e2, Result.andThen, Sem.run_pure, cmp_bytA]
  rfl

/-- The bytes, as a list; two identities compared. -/
def bytL (x : Id) : List UInt8 := (List.range 16).map fun i => (byt x i).toUInt8
theorem idL_cells (x : Id) : idL x = (bytL x).map Extern.Stop.cell := by
  unfold idL bytL
  rw [List.map_map]
  apply List.map_congr_left
  intro i _
  simp only [Function.comp_apply, Extern.Stop.cell]
  congr 1
  simp [Nat.mod_eq_of_lt (byt_lt x i)]
theorem bytL_beq (x y : Id) : (bytL x == bytL y) = (x == y) := by
  rw [Bool.eq_iff_iff, beq_iff_eq, beq_iff_eq]
  constructor
  · intro h
    refine byt_ext x y fun j hj => ?_
    have := congrArg (fun l => l[j]?) h
    simp only [bytL, List.getElem?_map, List.getElem?_range hj, Option.map_some, Option.some.injEq] at this
    exact (u8_ne (byt_lt x j) (byt_lt y j)).1 this
  · rintro rfl; rfl
theorem idL_inj {x y : Id} (h : idL x = idL y) : x = y := by
  refine byt_ext x y fun j hj => ?_
  have := congrArg (fun l => l[j]?) h
  simp only [idL_get _ _ hj, Option.some.injEq, Value.int.injEq, true_and] at this
  omega
/-- '==' of two rows, by a name into which the walk does not look. -/
def eqRow (t : TypeId) (x y : Value) : Sem Value := binOp .eql t x y
def neRow (t : TypeId) (x y : Value) : Sem Value := binOp .neq t x y
theorem run_eqRow_of {P : Program} {t e : TypeId} (ht : P.underlying t = some (.array 16 e)) (he : P.underlying e = some (.int .u8)) (hsz : ∀ w, (sizeOf e).run P w = .ok 1 w) (x y : Id) (W : World) :
    (eqRow t (.agg (idL x).toArray) (.agg (idL y).toArray)).run P W = .ok (.bool (x == y)) W := by
  have := run_eql_bytes (P := P) W t e 16 ht he hsz (bytL x) (bytL y) (by simp [bytL]) (by simp [bytL])
  rw [bytL_beq, ← idL_cells, ← idL_cells] at this
  exact this
theorem run_neRow_of {P : Program} {t e : TypeId} (ht : P.underlying t = some (.array 16 e)) (he : P.underlying e = some (.int .u8)) (hsz : ∀ w, (sizeOf e).run P w = .ok 1 w) (x y : Id) (W : World) :
    (neRow t (.agg (idL x).toArray) (.agg (idL y).toArray)).run P W = .ok (.bool (x != y)) W := by
  have := run_equalIn_bytes (P := P) W 9998 t e 16 ht he hsz (bytL x) (bytL y) (by simp [bytL]) (by simp [bytL])
  rw [bytL_beq, ← idL_cells, ← idL_cells] at this
  unfold neRow
  simp only [binOp, Sem.run_bind, Op.equal, Op.maxDepth, this, Result.andThen_ok, Sem.run_pure]
  rfl

end Go.Proofs.Ytaifnopoojbcfaa
