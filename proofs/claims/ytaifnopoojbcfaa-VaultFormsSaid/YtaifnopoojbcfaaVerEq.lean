/- Two versions compared. -/
import Derived.Test.YtaifnopoojbcfaaLogPlain
import Derived.Laws.IdiomStrings
import Derived.Lib.SlBytesConst
namespace Go.Proofs.Ytaifnopoojbcfaa
open Go.RowKit
open BigFrame

theorem eqIn_id (d : Nat) (x y : Id) (W : World) : (Op.equalIn (d + 2) 23 (.agg (idL x).toArray) (.agg (idL y).toArray)).run Try.prog W = .ok (x == y) W := by
  have := run_equalIn_bytes (P := Try.prog) W d 23 5 16 Try.underlying23 Try.underlying5 Try.sizeOf5 (bytL x) (bytL y) (by simp [bytL]) (by simp [bytL])
  rw [bytL_beq, ← idL_cells, ← idL_cells] at this
  exact this
theorem eqIn_ver (a b : Vr) (W : World) : (Op.equalIn 10000 25 (.agg (verL a).toArray) (.agg (verL b).toArray)).run Try.prog W = .ok (a.n == b.n && a.who == b.who) W := by
  go_simp
  have e : ∀ v : Vr, List.take 16 (verL v).tail = idL v.who := fun v => List.take_of_length_le (by simp [verL])
  rw [e, e, eqIn_id 9997]
  simp only [Result.andThen]
  by_cases h1 : a.n = b.n
  · by_cases h2 : a.who = b.who <;> simp [h1, h2]
  · simp [h1]
/-- Comparisons of versions, by names into which the walk does not look. -/
def eqVer (x y : Value) : Sem Value := binOp .eql 25 x y
def neVer (x y : Value) : Sem Value := binOp .neq 25 x y
@[go_sem ↓, go_sem high] theorem eql_ver (x y : Value) : binOp .eql 25 x y = eqVer x y := rfl
@[go_sem ↓, go_sem high] theorem neq_ver (x y : Value) : binOp .neq 25 x y = neVer x y := rfl
@[go_sem] theorem run_eqVer (a b : Vr) (W : World) : (eqVer (.agg (verL a).toArray) (.agg (verL b).toArray)).run Try.prog W = .ok (.bool (a.n == b.n && a.who == b.who)) W := by
  unfold eqVer
  rw [run_eql_struct, eqIn_ver]
  rfl
@[go_sem] theorem run_neVer (a b : Vr) (W : World) : (neVer (.agg (verL a).toArray) (.agg (verL b).toArray)).run Try.prog W = .ok (.bool (!(a.n == b.n && a.who == b.who))) W := by
  unfold neVer
  rw [run_neq_struct, eqIn_ver]
  rfl
@[go_sem] theorem guard_ver (o : BinOp) (x y : Operand) (xs ys : Array Value) (W : World) : (eqGuard o 25 x y (.agg xs) (.agg ys)).run Try.prog W = .ok () W :=
  run_eqGuard_agg W o _ x y xs ys (by kernel_rfl)
/-- Bytes as a string, by a name into which the walk does not look. -/
def strOf (v : Value) : Sem Value := convert 26 9 v
@[go_sem ↓, go_sem high] theorem strOf_alias (v : Value) : convert 26 9 v = strOf v := rfl
theorem run_strOf {W : World} {v : Value} {l : List UInt8} (h : ElV W v (bL l)) : (strOf v).run Try.prog W = .ok (.string ⟨l.toArray⟩) W := by
  unfold strOf
  rcases h with ⟨ao, cap, rfl, hao, hnil⟩ | ⟨b, off, cap, rfl, _, hr⟩
  · have hl0 : l = [] := by simpa [bL] using hnil
    subst hl0
    cases ao with
    | none =>
      rw [run_convert_bytes_string W 26 9 5 none 0 cap Try.underlying26 Try.underlying5 Try.underlying9]
      rfl
    | some ad => exact run_convert_bytes_back W 26 9 5 ad cap [] Try.underlying26 Try.underlying5 Try.underlying9 (by intro j hj; simp at hj)
  · rw [bL_length]
    exact run_convert_bytes_back W 26 9 5 ⟨b, off, none⟩ cap l Try.underlying26 Try.underlying5 Try.underlying9 (fun j hj => by
      rw [Addr.add_lit]
      exact hr j _ (bL_get l j hj))
theorem elV_marked (w : World) (x : Value) (t : TypeId) (fr : Nat × Nat) : ElV (w.alloc (.cells #[x] t fr)) (.slice (some ⟨w.heap.size, 0, none⟩) 1 1) [x] :=
  .inr ⟨w.heap.size, 0, 1, rfl, by simp, fun j u hu => by
    have := cell_of_row (w.alloc (.cells #[x] t fr)) w.heap.size (0 + j) #[x] t fr (heap_alloc_new w _)
    rw [this, Nat.zero_add]
    simpa using hu⟩
end Go.Proofs.Ytaifnopoojbcfaa
