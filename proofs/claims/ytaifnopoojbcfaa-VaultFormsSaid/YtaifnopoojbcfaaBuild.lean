/- Versions and items built of their parts. -/
import Derived.Test.YtaifnopoojbcfaaVault5
namespace Go.Proofs.Ytaifnopoojbcfaa
open Go.RowKit
open BigFrame

theorem fold_zip' : ∀ (L : List Value) (z : Array Value) (k : Nat), k + L.length ≤ z.size →
    ((L.zipIdx k).foldl (fun cs x => cs.setIfInBounds x.snd x.fst) z).toList = z.toList.take k ++ L ++ z.toList.drop (k + L.length)
  | [], z, k, _ => by simp
  | v :: r, z, k, h => by
    rw [List.zipIdx_cons, List.foldl_cons, fold_zip' r _ (k + 1) (by simp at h ⊢; omega)]
    have hk : k < z.toList.length := by simp at h ⊢; omega
    simp only [Array.toList_setIfInBounds, List.length_cons]
    rw [List.drop_set_of_lt (by omega), show k + 1 + r.length = k + (r.length + 1) by omega, List.take_set, List.take_succ_eq_append_getElem hk]
    have e : (List.take k z.toList).length = k := by rw [List.length_take]; omega
    rw [List.set_append, if_neg (by omega), e, Nat.sub_self]
    simp
theorem fold_off' (o : Nat) : ∀ (L : List Value) (k : Nat) (z : Array Value), (L.zipIdx k).foldl (fun cs x => cs.setIfInBounds (o + x.snd) x.fst) z = (L.zipIdx (o + k)).foldl (fun cs x => cs.setIfInBounds x.snd x.fst) z
  | [], _, _ => rfl
  | v :: r, k, z => by
    rw [List.zipIdx_cons, List.zipIdx_cons, List.foldl_cons, List.foldl_cons, fold_off' o r (k + 1)]
    rfl
/-- What the filling of one place leaves. -/
theorem fold_at (o : Nat) (L : List Value) (z : Array Value) (h : o + L.length ≤ z.size) : (L.zipIdx.foldl (fun cs x => cs.setIfInBounds (o + x.snd) x.fst) z).toList = z.toList.take o ++ L ++ z.toList.drop (o + L.length) := by
  rw [fold_off' o L 0 z, Nat.add_zero]
  exact fold_zip' L z o h
theorem build_ver (n : Int) (k : Id) (W : World) : (Instr.build 25 #[(0, .int .i64 n), (1, .agg (idL k).toArray)]).run Try.prog W = .ok (.agg (verL ⟨n, k⟩).toArray) W := by
  go_simp
  apply Array.toList_inj.1
  rw [fold_at 1 (idL k) _ (by simp)]
  simp [verL]
theorem fold0 (L : List Value) (z : Array Value) (h : L.length ≤ z.size) : L.zipIdx.foldl (fun cs x => cs.setIfInBounds x.snd x.fst) z = (L ++ z.toList.drop L.length).toArray := by
  apply Array.toList_inj.1
  rw [fold_zip' L z 0 (by omega)]
  simp
theorem fold1 (o : Nat) (L : List Value) (z : Array Value) (h : o + L.length ≤ z.size) : L.zipIdx.foldl (fun cs x => cs.setIfInBounds (o + x.snd) x.fst) z = (z.toList.take o ++ L ++ z.toList.drop (o + L.length)).toArray := by
  apply Array.toList_inj.1
  rw [fold_at o L z h]
theorem two_fold (key : Id) (v : Vr) : (verL v).zipIdx.foldl (fun cs x => cs.setIfInBounds (16 + x.snd) x.fst) ((idL key).zipIdx.foldl (fun cs x => cs.setIfInBounds x.snd x.fst) (itemL zItem).toArray) = (itemL ⟨key, v, .slice none 0 0⟩).toArray := by
  have e1 : (idL key).length = 16 := idL_length key
  have e2 : (verL v).length = 17 := verL_length v
  rw [fold0 (idL key) _ (by simp), fold1 16 (verL v) _ (by simp)]
  have h0 : (itemL zItem).drop 16 = verL zItem.ver ++ [zItem.val] := by
    unfold itemL
    rw [show (16 : Nat) = 16 + 0 from rfl, drop_app (by simp), List.drop_zero]
  simp only [e1, e2, h0]
  rw [take_app e1, drop_app e1, show (17 : Nat) = 17 + 0 from rfl, drop_app (by simp), List.drop_zero, List.append_assoc]
  rfl
theorem one_size (key : Id) : ((idL key).zipIdx.foldl (fun cs x => cs.setIfInBounds x.snd x.fst) (itemL zItem).toArray).size = 34 := by
  rw [fold0 (idL key) _ (by simp)]
  simp
theorem set_val (x : It) (v : Value) : (itemL x).toArray.setIfInBounds 33 v = (itemL ⟨x.key, x.ver, v⟩).toArray := by
  apply Array.toList_inj.1
  rw [Array.toList_setIfInBounds]
  have hl : (idL x.key ++ verL x.ver).length = 33 := by simp
  have e1 : itemL x = (idL x.key ++ verL x.ver) ++ [x.val] := by unfold itemL; rw [List.append_assoc]
  have e2 : itemL ⟨x.key, x.ver, v⟩ = (idL x.key ++ verL x.ver) ++ [v] := by unfold itemL; rw [List.append_assoc]
  show (itemL x).set 33 v = itemL ⟨x.key, x.ver, v⟩
  rw [e1, e2, List.set_append_right _ _ (by omega), hl]
  rfl
theorem build_item (key : Id) (v : Vr) (a : Option Addr) (n c : Nat) (W : World) : (Instr.build 28 #[(0, .agg (idL key).toArray), (1, .agg (verL v).toArray), (2, .slice a n c)]).run Try.prog W = .ok (.agg (itemL ⟨key, v, .slice a n c⟩).toArray) W := by
  go_simp
  rw [zlist, two_fold, one_size, set_val]
  simp
theorem build_item2 (key : Id) (v : Vr) (W : World) : (Instr.build 28 #[(0, .agg (idL key).toArray), (1, .agg (verL v).toArray)]).run Try.prog W = .ok (.agg (itemL ⟨key, v, .slice none 0 0⟩).toArray) W := by
  go_simp
  rw [zlist, two_fold, one_size]
  simp

theorem wpList_build_ver {ops : Array Oper} {rest : List Oper} {o : Oper} {a : Act} {Q : Exit → Act → World → Prop} {w : World} (hgd : o.guard = none) (x y : Operand) (ho : o.op = .build 25 #[(0, x), (1, y)])
    (n : Int) (k : Id) (hx : a.eval x = .int .i64 n) (hy : a.eval y = .agg (idL k).toArray) (h : wpList Try.prog ops Q rest (a.put o.dst (.agg (verL ⟨n, k⟩).toArray)) w) : wpList Try.prog ops Q (o :: rest) a w := by
  refine wpList_plain hgd fun K hK => ?_
  unfold Oper.wp
  simp [execOp, ho, hx, hy, build_ver, Result.andThen]
  exact hK _ _ h
theorem wpList_build_item {ops : Array Oper} {rest : List Oper} {o : Oper} {a : Act} {Q : Exit → Act → World → Prop} {w : World} (hgd : o.guard = none) (x y z : Operand) (ho : o.op = .build 28 #[(0, x), (1, y), (2, z)])
    (key : Id) (v : Vr) (ao : Option Addr) (n c : Nat) (hx : a.eval x = .agg (idL key).toArray) (hy : a.eval y = .agg (verL v).toArray) (hz : a.eval z = .slice ao n c) (h : wpList Try.prog ops Q rest (a.put o.dst (.agg (itemL ⟨key, v, .slice ao n c⟩).toArray)) w) : wpList Try.prog ops Q (o :: rest) a w := by
  refine wpList_plain hgd fun K hK => ?_
  unfold Oper.wp
  simp [execOp, ho, hx, hy, hz, build_item, Result.andThen]
  exact hK _ _ h
theorem wpList_build_item2 {ops : Array Oper} {rest : List Oper} {o : Oper} {a : Act} {Q : Exit → Act → World → Prop} {w : World} (hgd : o.guard = none) (x y : Operand) (ho : o.op = .build 28 #[(0, x), (1, y)])
    (key : Id) (v : Vr) (hx : a.eval x = .agg (idL key).toArray) (hy : a.eval y = .agg (verL v).toArray) (h : wpList Try.prog ops Q rest (a.put o.dst (.agg (itemL ⟨key, v, .slice none 0 0⟩).toArray)) w) : wpList Try.prog ops Q (o :: rest) a w := by
  refine wpList_plain hgd fun K hK => ?_
  unfold Oper.wp
  simp [execOp, ho, hx, hy, build_item2, Result.andThen]
  exact hK _ _ h
end Go.Proofs.Ytaifnopoojbcfaa
