/- Versions and items as rows of cells: loads, stores, parts of them, comparison. -/
import Derived.Test.YtaifnopoojbcfaaVNum2
import Derived.Test.YtaifnopoojbcfaaLoose
namespace Go.Proofs.Ytaifnopoojbcfaa
open Go.RowKit
open BigFrame

/-- A version; an item (its value as it lies in memory). -/
structure Vr where
  n : Int
  who : Id
structure It where
  key : Id
  ver : Vr
  val : Value
def verL (v : Vr) : List Value := .int .i64 v.n :: idL v.who
def itemL (x : It) : List Value := idL x.key ++ (verL x.ver ++ [x.val])
@[go_sem, simp] theorem verL_length (v : Vr) : (verL v).length = 17 := by simp [verL]
@[go_sem, simp] theorem itemL_length (x : It) : (itemL x).length = 34 := by simp [itemL]
@[go_sem] theorem verL_zero (v : Vr) : (verL v)[0]? = some (.int .i64 v.n) := rfl
@[go_sem] theorem verL_who (v : Vr) : List.take 16 (List.drop 1 (verL v)) = idL v.who := List.take_of_length_le (by simp)
@[go_sem] theorem verL_zero' (v : Vr) (h : 0 < (verL v).length) : (verL v)[0]'h = .int .i64 v.n := rfl
theorem take_app {A B : List Value} {n : Nat} (h : A.length = n) : List.take n (A ++ B) = A := by subst h; simp
theorem drop_app {A B : List Value} {n m : Nat} (h : A.length = n) : List.drop (n + m) (A ++ B) = List.drop m B := by subst h; simp
@[go_sem] theorem itemL_key (x : It) : List.take 16 (itemL x) = idL x.key := take_app (by simp)
@[go_sem] theorem itemL_ver (x : It) : List.take 17 (List.drop 16 (itemL x)) = verL x.ver := by
  unfold itemL
  rw [show (16 : Nat) = 16 + 0 from rfl, drop_app (by simp), List.drop_zero]
  exact take_app (by simp)
@[go_sem] theorem itemL_who (x : It) : List.take 16 (List.drop 17 (itemL x)) = idL x.ver.who := by
  unfold itemL
  rw [show (17 : Nat) = 16 + 1 from rfl, drop_app (by simp)]
  exact take_app (by simp)
@[go_sem] theorem itemL_n (x : It) : (itemL x)[16]? = some (.int .i64 x.ver.n) := by
  unfold itemL
  rw [List.getElem?_append_right (by simp)]
  simp [verL]
@[go_sem] theorem itemL_val (x : It) : (itemL x)[33]? = some x.val := by
  unfold itemL
  rw [List.getElem?_append_right (by simp), List.getElem?_append_right (by simp)]
  simp

@[go_sem] theorem itemL_n' (x : It) (h : 16 < (itemL x).length) : (itemL x)[16]'h = .int .i64 x.ver.n := Option.some.inj ((List.getElem?_eq_getElem h).symm.trans (itemL_n x))
@[go_sem] theorem itemL_val' (x : It) (h : 33 < (itemL x).length) : (itemL x)[33]'h = x.val := Option.some.inj ((List.getElem?_eq_getElem h).symm.trans (itemL_val x))
theorem idL_one (x : Id) : ∀ u ∈ idL x, u.oneCell' = true := by
  intro u hu; obtain ⟨i, _, rfl⟩ := List.mem_map.1 hu; rfl
theorem rowOk_list {L : List Value} {k : Nat} (hl : L.length = k) (h : ∀ u ∈ L, u.oneCell' = true) : rowOk L.toArray k = true := by
  subst hl
  unfold rowOk
  rw [Bool.and_eq_true]
  refine ⟨by simp, ?_⟩
  rw [Array.all_eq_true_iff_forall_mem]
  intro u hu
  exact h u (by simpa using hu)
@[go_sem] theorem rowOk_ver (v : Vr) : rowOk (verL v).toArray 17 = true := rowOk_list (verL_length v) fun u hu => by
  rcases List.mem_cons.1 hu with rfl | h
  · rfl
  · exact idL_one _ u h
def isSl : Value → Bool
  | .slice _ _ _ => true
  | _ => false
@[go_sem] theorem isSl_slice (a : Option Addr) (n c : Nat) : isSl (.slice a n c) = true := rfl
theorem isSl_one {v : Value} (h : isSl v = true) : v.oneCell' = true := by
  revert h
  cases v <;> first | (intro h; cases h; done) | (intro _; rfl)
@[go_sem] theorem rowOk_item (x : It) (h : isSl x.val = true) : rowOk (itemL x).toArray 34 = true := rowOk_list (itemL_length x) fun u hu => by
  unfold itemL verL at hu
  simp only [List.mem_append, List.mem_cons, List.not_mem_nil, or_false] at hu
  rcases hu with h1 | (rfl | h1) | rfl
  · exact idL_one _ u h1
  · rfl
  · exact idL_one _ u h1
  · exact isSl_one h
@[go_sem ↓] theorem loadAt_ver (x : Value) : Instr.loadAt 25 x = loadRow 25 x := rfl
@[go_sem] theorem run_load_ver (b o : Nat) (W : World) : (loadRow 25 (.pointer (some ⟨b, o, none⟩))).run Try.prog W = (match rowAt W b o 17 with | some cs => .ok (.agg cs.toArray) W | none => (loadRowStuck 25 (.pointer (some ⟨b, o, none⟩))).run Try.prog W) :=
  run_loadRow_of Try.underlying25 rfl (by kernel_rfl) b o W
@[go_sem ↓] theorem loadAt_item (x : Value) : Instr.loadAt 28 x = loadRow 28 x := rfl
@[go_sem] theorem run_load_item (b o : Nat) (W : World) : (loadRow 28 (.pointer (some ⟨b, o, none⟩))).run Try.prog W = (match rowAt W b o 34 with | some cs => .ok (.agg cs.toArray) W | none => (loadRowStuck 28 (.pointer (some ⟨b, o, none⟩))).run Try.prog W) :=
  run_loadRow_of Try.underlying28 rfl (by kernel_rfl) b o W
@[go_sem ↓] theorem storeAt_item (x v : Value) : Instr.storeAt 28 x v = storeRow 28 x v := rfl
@[go_sem] theorem run_store_item (b o : Nat) (cs : Array Value) (W : World) : (storeRow 28 (.pointer (some ⟨b, o, none⟩)) (.agg cs)).run Try.prog W =
    (if rowOk cs 34 = true then (if canPut W b o 34 = true then .ok () (putRow W b o cs.toList) else (storeRowStuck 28 (.pointer (some ⟨b, o, none⟩)) (.agg cs)).run Try.prog W) else (storeRowStuck 28 (.pointer (some ⟨b, o, none⟩)) (.agg cs)).run Try.prog W) :=
  run_storeRow_of (by kernel_rfl) b o cs W

@[go_sem] theorem rowAt_alloc_sub (w : World) (L : List Value) (t : TypeId) (n o k : Nat) (hn : n = w.heap.size) (_ho : k < L.length) (hk : o + k ≤ L.length) : rowAt (w.alloc (.cells L.toArray t)) n o k = some ((L.drop o).take k) := by
  subst hn
  unfold rowAt
  rw [heap_alloc_new]
  simp only [List.size_toArray]
  rw [if_pos hk]

/-- Is version a newer than b? -/
def newerB (a b : Vr) : Bool := decide (b.n < a.n) || (a.n == b.n && ltB b.who a.who)
theorem cmp_pos (x y : Id) : decide (0 < cmpI x y) = ltB y x := by
  unfold cmpI ltB
  by_cases h1 : x.toNat < y.toNat
  · have : ¬ y.toNat < x.toNat := by omega
    simp [h1, this]
  · by_cases h2 : y.toNat < x.toNat <;> simp [h1, h2]

set_option maxHeartbeats 1600000 in
theorem newer_any (a b : Vr) (w : World) :
    Calls Try.prog 8 #[.agg (verL a).toArray, .agg (verL b).toArray] w fun e w' => e = .returned (.bool (newerB a b)) ∧ Kept w w' := by
  rcases Int.lt_trichotomy b.n a.n with h | h | h
  · have R : Hid (newerB a b = true) := by unfold newerB; simp [Hid, h]
    go_enter Try.func8, Try.ntmps8
    go_wp2_with fail
    go_ret
    exact ⟨by rw [R.out]; rfl, ka (ka (k0 _) _) _⟩
  · have R : Hid (newerB a b = decide (0 < cmpI a.who b.who)) := by unfold newerB; rw [cmp_pos]; simp [Hid, h]
    have h1 : (a.n == b.n) = true := by simp [h]
    have h2 : ¬ b.n < a.n := by omega
    clear h
    go_enter Try.func8, Try.ntmps8
    go_wp2_with fail
    refine (compare_any _ _ _).mono ?_
    rintro e w1 ⟨rfl, q1⟩
    go_wp2_with fail
    go_ret
    exact ⟨by rw [R.out]; rfl, kt (ka (ka (k0 _) _) _) q1⟩
  · have R : Hid (newerB a b = false) := by unfold newerB; simp [Hid]; omega
    have h1 : (a.n == b.n) = false := by simp; omega
    have h2 : ¬ b.n < a.n := by omega
    go_enter Try.func8, Try.ntmps8
    go_wp2_with fail
    go_ret
    exact ⟨by rw [R.out]; rfl, ka (ka (k0 _) _) _⟩

set_option maxHeartbeats 1600000 in
theorem rnewer_any (a b : Vr) (w : World) :
    Calls Try.prog 9 #[.agg (verL a).toArray, .agg (verL b).toArray] w fun e w' => e = .returned (.bool (newerB a b)) ∧ Kept w w' := by
  by_cases h : a.n = b.n
  · have R : Hid (newerB a b = ltB b.who a.who) := by unfold newerB; simp [Hid, h]
    have h1 : (a.n != b.n) = false := by simp [h]
    clear h
    go_enter Try.func9, Try.ntmps9
    go_wp2_with fail
    refine (less_any _ _ _).mono ?_
    rintro e w1 ⟨rfl, q1⟩
    go_wp2_with fail
    go_ret
    exact ⟨by rw [R.out]; rfl, kt (ka (ka (k0 _) _) _) q1⟩
  · have R : Hid (newerB a b = decide (b.n < a.n)) := by unfold newerB; simp [Hid, h]
    have h1 : (a.n != b.n) = true := by simp [h]
    clear h
    go_enter Try.func9, Try.ntmps9
    go_wp2_with fail
    go_ret
    exact ⟨by rw [R.out]; rfl, ka (ka (k0 _) _) _⟩
end Go.Proofs.Ytaifnopoojbcfaa
