/- vault.read of an item's record. -/
import Derived.Test.YtaifnopoojbcfaaVault3
namespace Go.Proofs.Ytaifnopoojbcfaa
open Go.RowKit
open BigFrame

theorem canPut_of {w : World} {b o k : Nat} {c : Array Value} {t : TypeId} (h : w.heap[b]? = some (.cells c t (0, 0))) (hk : o + k ≤ c.size) : canPut w b o k = true := by
  unfold canPut; rw [h]; simp [hk]
def ItAt (w : World) (b : Nat) (x : It) : Prop := w.heap[b]? = some (.cells (itemL x).toArray 28 (0, 0))
theorem it_kept {w w' : World} (hk : Kept w w') {b : Nat} {x : It} (h : ItAt w b x) : ItAt w' b x := heap_kept hk h
theorem it_row {w : World} {b : Nat} {x : It} (h : ItAt w b x) : rowAt w b 0 34 = some (itemL x) := rowAt_heap h (itemL_length _)
theorem it_can {w : World} {b : Nat} {x : It} (h : ItAt w b x) {o k : Nat} (hk : o + k ≤ 34) : canPut w b o k = true := canPut_of h (by simpa using hk)
theorem it_key {w : World} {b : Nat} {x : It} (h : ItAt w b x) (k : Id) : ItAt (putRow w b 0 (idL k)) b ⟨k, x.ver, x.val⟩ := by
  obtain ⟨c', g1, _, g3⟩ := heap_putRow_same (L := idL k) h (o := 0) (by simp)
  have e1 : itemL x = idL x.key ++ (verL x.ver ++ [x.val]) := rfl
  have e2 : itemL ⟨k, x.ver, x.val⟩ = idL k ++ (verL x.ver ++ [x.val]) := rfl
  have ec : c' = (itemL ⟨k, x.ver, x.val⟩).toArray := by
    apply Array.toList_inj.1
    rw [g3, idL_length, e2]
    simp only [List.take_zero, List.nil_append, Nat.zero_add]
    rw [e1, show (16 : Nat) = 16 + 0 from rfl, drop_app (by simp), List.drop_zero]
  unfold ItAt
  rw [g1, ec]
theorem it_who {w : World} {b : Nat} {x : It} (h : ItAt w b x) (k : Id) : ItAt (putRow w b 17 (idL k)) b ⟨x.key, ⟨x.ver.n, k⟩, x.val⟩ := by
  obtain ⟨c', g1, _, g3⟩ := heap_putRow_same (L := idL k) h (o := 17) (by simp)
  have e1 : itemL x = (idL x.key ++ [.int .i64 x.ver.n]) ++ (idL x.ver.who ++ [x.val]) := by simp [itemL, verL]
  have e2 : itemL ⟨x.key, ⟨x.ver.n, k⟩, x.val⟩ = (idL x.key ++ [.int .i64 x.ver.n]) ++ (idL k ++ [x.val]) := by simp [itemL, verL]
  have hl : (idL x.key ++ [Value.int .i64 x.ver.n]).length = 17 := by simp
  have ec : c' = (itemL ⟨x.key, ⟨x.ver.n, k⟩, x.val⟩).toArray := by
    apply Array.toList_inj.1
    rw [g3, idL_length, e2]
    simp only []
    rw [e1, take_app hl, drop_app hl, show (16 : Nat) = 16 + 0 from rfl, drop_app (by simp), List.drop_zero, List.append_assoc]
  unfold ItAt
  rw [g1, ec]
theorem it_n {w : World} {b : Nat} {x : It} (h : ItAt w b x) (n : Int) : ItAt (w.setCell ⟨b, 16, none⟩ (.int .i64 n)) b ⟨x.key, ⟨n, x.ver.who⟩, x.val⟩ := by
  have h1 := heap_setCell_same w b 16 _ _ (.int .i64 n) h
  have e : (itemL x).toArray.setIfInBounds 16 (.int .i64 n) = (itemL ⟨x.key, ⟨n, x.ver.who⟩, x.val⟩).toArray := by
    apply Array.toList_inj.1
    rw [Array.toList_setIfInBounds]
    show (itemL x).set 16 _ = itemL ⟨x.key, ⟨n, x.ver.who⟩, x.val⟩
    unfold itemL
    rw [List.set_append_right _ _ (by simp), idL_length]
    rfl
  rw [e] at h1
  exact h1
theorem it_n_cell {w : World} {b : Nat} {x : It} (h : ItAt w b x) : w.cell? ⟨b, 16, none⟩ = some (.int .i64 x.ver.n) ∧ w.frozen? ⟨b, 16, none⟩ = false ∧ w.cell? ⟨b, 33, none⟩ = some x.val ∧ w.frozen? ⟨b, 33, none⟩ = false :=
  ⟨item_n (it_row h), frozen_of_row w _ _ _ _ h, item_val (it_row h), frozen_of_row w _ _ _ _ h⟩

theorem formB_small {key who : Id} {n : Nat} {t : List UInt8} (h0 : 0 < n) (h : n < 256) (t0 : 0 < t.length) (ht : t.length ≤ 64) :
    formB key n who t = [1, 2] ++ bytL key ++ [1, UInt8.ofNat n] ++ bytL who ++ ([1, UInt8.ofNat t.length] ++ t) := by
  unfold formB text1
  rw [num1_small h0 h, num1_small t0 (by omega), num1_small (show 0 < 2 by omega) (by omega)]
  rfl

set_option maxRecDepth 100000 in
set_option maxHeartbeats 3200000 in
theorem read_item (vb lb mb inc : Nat) (key who : Id) (n : Nat) (t : List UInt8) (b off cap : Nat) (w : World) (hv : VaultAt w vb lb mb inc) (hm : MapAt w mb none)
    (hr : ElV w (.slice (some ⟨b, off, none⟩) (formB key n who t).length cap) (bL (formB key n who t))) (hc : (formB key n who t).length ≤ cap) (h0 : 0 < n) (h : n < 256) (t0 : 0 < t.length) (ht : t.length ≤ 64) :
    Calls Try.prog 26 #[.pointer (some ⟨vb, 0, none⟩), .slice (some ⟨b, off, none⟩) (formB key n who t).length cap] w fun e w' => e = .returned (.bool true) ∧
      (∃ v', MapAt w' mb (some (key, ⟨key, ⟨n, who⟩, v'⟩)) ∧ OwV w' w.heap.size 5 v' (bL t)) ∧ KeptX [mb] w w' := by
  have hlen : (formB key n who t).length = 38 + t.length := by rw [formB_small h0 h t0 ht]; simp [bytL_length]; omega
  have e := formB_small (key := key) (who := who) h0 h t0 ht
  have i0 : (formB key n who t)[0]? = some 1 := by rw [e]; rfl
  have i1 : (formB key n who t)[1]? = some 2 := by rw [e]; rfl
  have i2 : ((formB key n who t).drop 2).take 16 = bytL key := by rw [e]; rfl
  have i18 : (formB key n who t)[18]? = some 1 := by rw [e]; rfl
  have i19 : (formB key n who t)[19]? = some (UInt8.ofNat n) := by rw [e]; rfl
  have i20 : ((formB key n who t).drop 20).take 16 = bytL who := by rw [e]; rfl
  have i36 : (formB key n who t)[36]? = some 1 := by rw [e]; rfl
  have i37 : (formB key n who t)[37]? = some (UInt8.ofNat t.length) := by rw [e]; rfl
  have i38 : ((formB key n who t).drop 38).take t.length = t := by
    have e38 : (formB key n who t).drop 38 = t := by rw [e]; rfl
    rw [e38, List.take_length]
  generalize formB key n who t = l at *
  clear e
  have HG0 := Lib.hid fun (W : World) (hk : Kept w W) => getnum_one b off cap l 0 2 W (elV_kept hk hr) hc (by omega) i0 i1 (by decide)
  have HG1 := Lib.hid fun (W : World) (hk : Kept w W) => getid_any b off cap l 2 key W (elV_kept hk hr) hc (by omega) (by omega) i2
  have G2 := fun (W : World) (hk : Kept w W) => getnum_one b off cap l 18 (UInt8.ofNat n) W (elV_kept hk hr) hc (by omega) i18 i19 (u8_ne0 h0 h)
  have HG3 := Lib.hid fun (W : World) (hk : Kept w W) => getid_any b off cap l 20 who W (elV_kept hk hr) hc (by omega) (by omega) i20
  have HG4 := Lib.hid fun (W : World) (hk : Kept w W) => gettext_any b off cap l 36 t W (elV_kept hk hr) hc (by omega) i36 i37 t0 ht (by omega) i38
  rw [u8_nat h] at G2
  have HG2 := Lib.hid G2
  have d1 : decide ((n : Int) < 1) = false := by simp; omega
  have d2 : decide (0 < (n : Int) / 4611686018427387904) = false := by simp; omega
  have d3 : decide ((38 : Int) + (t.length : Int) < (l.length : Int)) = false := by simp; omega
  have HL := Lib.hid hlen
  clear G2 i0 i1 i2 i18 i19 i20 i36 i37 i38 hr hlen
  go_enter Try.func26, Try.ntmps26
  go_wp2_with fail
  refine (HG0.out _ (k0 _)).mono ?_
  rintro e w1 ⟨rfl, q1⟩
  go_wp2_with fail
  refine (HG1.out _ (ka q1 _)).mono ?_
  rintro e w2 ⟨rfl, q2⟩
  have hB2 : ItAt w2 w1.heap.size zItem := it_kept q2 (by unfold ItAt; rw [← zlist]; exact heap_at _ _ rfl)
  have cp2 := it_can hB2 (o := 0) (k := 16) (by omega)
  have k2 : Kept w (putRow w2 w1.heap.size 0 (idL key)) := kp (kt (ka q1 _) q2) q1.size _ _
  have hB2' := it_key hB2 key
  clear q2 hB2
  go_wp2_with fail
  refine (HG2.out _ k2).mono ?_
  rintro e w3 ⟨rfl, q3⟩
  have hB3 := it_kept q3 hB2'
  have k3 := kt k2 q3
  obtain ⟨c16, f16, -, -⟩ := it_n_cell hB3
  clear q3 hB2' k2 cp2
  have k3' : Kept w (w3.setCell ⟨w1.heap.size, 16, none⟩ (.int .i64 n)) := ks k3 q1.size _
  have hB3' := it_n hB3 n
  go_wp2_with fail
  refine (HG3.out _ k3').mono ?_
  rintro e w4 ⟨rfl, q4⟩
  have hB4 := it_kept q4 hB3'
  have k4 := kt k3' q4
  have cp4 := it_can hB4 (o := 17) (k := 16) (by omega)
  have k4' : Kept w (putRow w4 w1.heap.size 17 (idL who)) := kp k4 q1.size _ _
  have hB4' := it_who hB4 who
  have hs4 : w1.heap.size < w4.heap.size := (Array.getElem?_eq_some_iff.1 hB4).1
  clear c16 f16 hB3 hB3' k3 k3' q4 hB4
  go_wp2_with fail
  refine (HG4.out _ k4').mono ?_
  rintro e w5 ⟨v5, rfl, o5, q5⟩
  have hB5 := it_kept q5 hB4'
  have k5 := kt k4' q5
  obtain ⟨-, -, c33, f33⟩ := it_n_cell hB5
  obtain ⟨ao, cp, rfl, -, -⟩ := elV_form (owV_elV o5)
  rw [bL_length] at o5 ⊢
  have hr5 := item_setval hB5 (.slice ao t.length cp)
  have k6 : Kept w (w5.setCell ⟨w1.heap.size, 33, none⟩ (.slice ao t.length cp)) := ks k5 q1.size _
  have O5 := Lib.hid o5
  clear cp4 hB4' k4 k4' hB5 o5
  go_wp2_with fail
  refine (take_any vb lb mb inc ⟨key, ⟨n, who⟩, .slice ao t.length cp⟩ _ (vault_kept k6 hv) (map_kept k6 hm)).mono ?_
  rintro e w7 ⟨rfl, hm7, x7⟩
  have hml := map_lt hm
  go_wp2_with fail
  go_ret
  refine ⟨rfl, ⟨_, hm7, ?_⟩, xt (xk k6) x7⟩
  have O6 := O5.out
  rw [size_putRow] at O6
  have hs1 := q1.size
  exact owV_mono (owV_x (bs := [w1.heap.size, mb]) (xt (xset (x0 _ _) (by simp) _) (xm x7 (by simp))) O6 (by intro k hk; simp at hk; omega)) (by omega)
end Go.Proofs.Ytaifnopoojbcfaa
