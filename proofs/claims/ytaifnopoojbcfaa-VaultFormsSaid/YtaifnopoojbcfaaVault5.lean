/- vault.Open. -/
import Derived.Test.YtaifnopoojbcfaaVault4
namespace Go.Proofs.Ytaifnopoojbcfaa
open Go.RowKit
open BigFrame

/-- A record: a beginning, or an item. -/
inductive Rec where
  | beg (m : Nat)
  | item (key who : Id) (n : Nat) (t : List UInt8)
def recB : Rec → List UInt8
  | .beg m => putNums [1, m]
  | .item key who n t => formB key n who t
def incR : List Rec → Nat
  | [] => 0
  | .beg m :: r => if r.all (fun x => match x with | .beg _ => false | _ => true) then m else incR r
  | _ :: r => incR r
def incTo (rs : List Rec) : Nat → Nat
  | 0 => 0
  | k + 1 => match rs[k]? with | some (.beg m) => m | _ => incTo rs k
def itTo (rs : List Rec) : Nat → Option (Id × Id × Nat × List UInt8)
  | 0 => none
  | k + 1 => match rs[k]? with | some (.item key who n t) => some (key, who, n, t) | _ => itTo rs k
def RecOk (rs : List Rec) (i : Nat) : Prop :=
  match rs[i]? with
  | some (.beg m) => incTo rs i < m ∧ m < 256
  | some (.item _ _ n t) => itTo rs i = none ∧ 0 < n ∧ n < 256 ∧ 0 < t.length ∧ t.length ≤ 20
  | none => True
def MapHolds (w : World) (mb base : Nat) (o : Option (Id × Id × Nat × List UInt8)) : Prop :=
  match o with
  | none => MapAt w mb none
  | some (key, who, n, t) => ∃ v, MapAt w mb (some (key, ⟨key, ⟨n, who⟩, v⟩)) ∧ OwV w base 5 v (bL t)
theorem mh_x {bs : List Nat} {w w' : World} (hk : KeptX bs w w') {mb base : Nat} {o : Option (Id × Id × Nat × List UInt8)} (h : MapHolds w mb base o) (hn : mb ∉ bs) (hb : ∀ k ∈ bs, k < base) : MapHolds w' mb base o := by
  cases o with
  | none => exact map_x (M := none) hk h hn
  | some m =>
    obtain ⟨v, h1, h2⟩ := h
    exact ⟨v, map_x hk h1 hn, owV_x hk h2 hb⟩
theorem mh_kept {w w' : World} (hk : Kept w w') {mb base : Nat} {o : Option (Id × Id × Nat × List UInt8)} (h : MapHolds w mb base o) : MapHolds w' mb base o := mh_x (bs := []) (xk hk) h (by simp) (by simp)
theorem xdrop {bs cs : List Nat} {w w' : World} (h : KeptX bs w w') (hs : ∀ k ∈ bs, k ∈ cs ∨ w.heap.size ≤ k) : KeptX cs w w' :=
  ⟨h.os, h.tape, h.output, h.size, fun i hi hb => h.block i hi fun hc => by rcases hs i hc with h1 | h1; exact hb h1; omega⟩
theorem incTo_le (rs : List Rec) (h : ∀ i, i < rs.length → RecOk rs i) : ∀ k, k ≤ rs.length → incTo rs k < 256
  | 0, _ => by simp [incTo]
  | k + 1, hk => by
    have h1 := h k (by omega)
    have ih := incTo_le rs h k (by omega)
    unfold RecOk at h1
    unfold incTo
    split <;> rename_i e
    · rw [e] at h1; exact h1.2
    · exact ih

/-- How a vault's opening ends: by the power that is left. -/
def OpenPost (w : World) (a g : Nat) (S : List (List UInt8)) (p : Int) (gen : Nat) (rs : List Rec) (e : Ending) (w' : World) : Prop :=
  ((p = 0 ∨ p = 1) ∧ e = .returned (.tuple #[.pointer none, .int .i64 8]) ∧ (DiskAt w' a g S 0 ∨ DiskAt w' a g (S.set (2 + rs.length) (recSec (recB (.beg (incTo rs rs.length + 1))))) 0) ∧ KeptX [a, g] w w') ∨
  (p ≠ 0 ∧ p ≠ 1 ∧ ∃ vb lb mb base, e = .returned (.tuple #[.pointer (some ⟨vb, 0, none⟩), .int .i64 0]) ∧ w.heap.size ≤ vb ∧ w.heap.size ≤ lb ∧ w.heap.size ≤ mb ∧ w.heap.size ≤ base ∧ vb < base ∧ lb < base ∧ mb < base ∧ vb ≠ lb ∧ vb ≠ mb ∧ lb ≠ mb ∧ VaultAt w' vb lb mb (incTo rs rs.length + 1) ∧ LogAt w' lb a (gen + 1) (rs.length + 1) (rs.length + 1) false ∧ MapHolds w' mb base (itTo rs rs.length) ∧
    DiskAt w' a g ((S.set (2 + rs.length) (recSec (recB (.beg (incTo rs rs.length + 1))))).set ((gen + 1) % 2) (headSec (gen + 1) (rs.length + 1) (rs.length + 1))) (if 0 < p then p - 2 else p) ∧ KeptX [a, g] w w')

theorem elV_two (w : World) (g : Nat) (hg : g = w.heap.size) (m : Nat) : ElV (w.alloc (.cells #[.int .u64 1, .int .u64 ((m : Int) + 1)] 52)) (.slice (some ⟨g, 0, none⟩) 2 2) (nL [1, m + 1]) := by
  subst hg
  exact owV_elV (owV_made w (nL [1, m + 1]) _ 2 rfl (by unfold maxLen; simp))
theorem recB_pos {rs : List Rec} {k : Nat} (hk : k < rs.length) (h : RecOk rs k) : 0 < (recB rs[k]).length ∧ (recB rs[k]).length ≤ 60 := by
  unfold RecOk at h
  rw [List.getElem?_eq_getElem hk] at h
  revert h
  generalize hr : rs[k] = r
  cases r with
  | beg m =>
    intro h
    have h0 : 0 < m := by have := h.1; omega
    simp only [recB]
    rw [begin_rec h0 h.2]
    simp
  | item key who n t =>
    intro ⟨_, h1, h2, h3, h4⟩
    simp only [recB]
    rw [formB_small h1 h2 h3 (by omega)]
    simp [bytL_length]
    omega

set_option maxRecDepth 100000 in
set_option maxHeartbeats 3200000 in
theorem vopen_any (a g : Nat) (S : List (List UInt8)) (p : Int) (gen : Nat) (rs : List Rec) (w : World) (hd : DiskAt w a g S p) (hL : LogOn S gen (rs.map recB)) (hok : ∀ i, i < rs.length → RecOk rs i)
    (hroom : rs.length + 3 ≤ S.length) (hinc : incTo rs rs.length < 255) (hp1 : -1 ≤ p) (hp2 : p ≤ 1000) :
    Calls Try.prog 12 #[.pointer (some ⟨a, 0, none⟩)] w (OpenPost w a g S p gen rs) := by
  have hmk := @run_makeMap Try.prog
  have h46 := hd.2.2.2.2
  have hOpen := sopen_any a g S p gen (rs.map recB) w hd hL
  rw [List.length_map] at hOpen
  have HO := Lib.hid hOpen
  have HD := Lib.hid hd
  have HL := Lib.hid hL
  have HK := Lib.hid hok
  clear hOpen hd hL hok
  go_enter Try.func12, Try.ntmps12
  go_wp2_with fail
  refine HO.out.mono ?_
  rintro e w1 ⟨lb, v, rfl, hlb, hLog, hR, q1⟩
  obtain ⟨vs, hvs, hvl, hve⟩ := hR
  obtain ⟨ao, cap, rfl, hcap, -⟩ := elV_form (owV_elV hvs)
  rw [hvl, List.length_map] at hcap hvs ⊢
  go_wp2_with fail
  refine wp_any_world (fun W => VaultAt W (w1.heap.size + 1) lb w1.heap.size 0 ∧ MapHolds W w1.heap.size (w1.heap.size + 2) none ∧ Kept w1 W ∧ w1.heap.size + 2 ≤ W.heap.size) ⟨heap_at _ _ (by simp), ⟨0, heap_past _ _ (heap_at _ _ rfl)⟩, ka (ka (k0 _) _) _, by simp⟩ ?_
  rintro W0 ⟨hV0, hM0, q0, hs0⟩
  have hs1 := q1.size
  go_loopw [26] (fun iv wr => ∃ k : Nat, k ≤ rs.length ∧ iv = .int .i64 k ∧ VaultAt wr (w1.heap.size + 1) lb w1.heap.size (incTo rs k) ∧ MapHolds wr w1.heap.size (w1.heap.size + 2) (itTo rs k) ∧ Kept w1 wr ∧ w1.heap.size + 2 ≤ wr.heap.size) (fun iv _ => rs.length - (intOf iv).toNat)
  case atStart => exact ⟨0, by omega, rfl, hV0, hM0, q0, hs0⟩
  case round =>
    obtain ⟨k, hk, rfl, hV, hM, q, hs⟩ := hrel
    by_cases hkl : k < rs.length
    · have k1 : (k : Int) < (rs.length : Int) := by omega
      have hRk := HK.out k hkl
      obtain ⟨hp0, hp60⟩ := recB_pos hkl hRk
      have hrk : rs[k]? = some rs[k] := List.getElem?_eq_getElem hkl
      have hvk := hve k (by simpa using hkl) (by rw [hvl]; simpa using hkl)
      rw [List.getElem_map] at hvk
      obtain ⟨b, cp, hform, hc, hm2, -⟩ := owV_form hvk (by rw [bL_length]; exact hp0)
      rw [bL_length] at hform hc
      obtain ⟨bb, bo, bc, he, _, hcell⟩ := elV_at (owV_elV hvs) (by intro e; rw [e, List.length_nil, List.length_map] at hvl; omega)
      simp only [Value.slice.injEq] at he
      obtain ⟨rfl, -, rfl⟩ := he
      have hck := hcell k (by rw [hvl]; simpa using hkl)
      rw [List.getElem?_eq_getElem (by rw [hvl]; simpa using hkl), hform] at hck
      have hck2 := hck
      rw [← q.cell (p := ⟨bb, bo + k, none⟩) (block_lt_of_cell hck)] at hck
      rw [hform] at hvk
      have hE := elV_kept q (owV_elV hvk)
      have hsucc : ∀ x, rs[k] = x → (incTo rs (k + 1) = (match x with | .beg m => m | _ => incTo rs k)) ∧ (itTo rs (k + 1) = (match x with | .item key who n t => some (key, who, n, t) | _ => itTo rs k)) := by
        intro x hx
        rw [hx] at hrk
        constructor
        · show (match rs[k]? with | some (.beg m) => m | _ => incTo rs k) = _
          rw [hrk]
          cases x <;> rfl
        · show (match rs[k]? with | some (.item key who n t) => some (key, who, n, t) | _ => itTo rs k) = _
          rw [hrk]
          cases x <;> rfl
      unfold RecOk at hRk
      rw [hrk] at hRk
      clear hvk hform hcell hck2 hve hvs hrk
      revert hRk hE hc hck hsucc hp0 hp60
      generalize rs[k] = r
      cases r with
      | beg m =>
        intro hRk hp0 hp60 hc hck hE hsucc
        obtain ⟨hi1, hi2⟩ := hsucc _ rfl
        have h4 : (recB (.beg m)).length = 4 := by simp only [recB]; rw [begin_rec (by have := hRk.1; omega) hRk.2]; rfl
        rw [h4] at hc hck hE
        have HH := Lib.hid (And.intro hi1 hi2)
        have C := Lib.hid (read_begin (w1.heap.size + 1) lb w1.heap.size (incTo rs k) m b 0 cp wr hV hE hc hRk.1 hRk.2)
        clear hi1 hi2 hsucc h4 hE hp0 hp60 hRk
        go_wp2_with fail
        refine C.out.mono ?_
        rintro e w2 ⟨rfl, hV2, x2⟩
        have hM2 := mh_x x2 hM (by simp) (by simp)
        have q2 : Kept w1 w2 := xkept (xt (xk q) x2) (by simp)
        have hs2 := x2.size
        go_wp2_with fail
        go_roundw
        case rel => exact ⟨k + 1, by omega, by go_num, by rw [HH.out.1]; exact hV2, by rw [HH.out.2]; exact hM2, q2, by omega⟩
        case measure => simp [intOf]; omega
      | item key who n t =>
        intro hRk hp0 hp60 hc hck hE hsucc
        obtain ⟨hi1, hi2⟩ := hsucc _ rfl
        obtain ⟨hn, hn0, hn1, ht0, ht1⟩ := hRk
        rw [hn] at hM
        have HH := Lib.hid (And.intro hi1 hi2)
        have C := Lib.hid (read_item (w1.heap.size + 1) lb w1.heap.size (incTo rs k) key who n t b 0 cp wr hV hM hE hc hn0 hn1 ht0 (by omega))
        simp only [recB] at hck
        clear hi1 hi2 hsucc hE hp0 hp60 hn hc hM
        go_wp2_with fail
        refine C.out.mono ?_
        rintro e w2 ⟨rfl, ⟨v', hM2, ho2⟩, x2⟩
        have hV2 := vault_x x2 hV (by simp)
        have q2 : Kept w1 w2 := xkept (xt (xk q) x2) (by simp)
        have hs2 := x2.size
        go_wp2_with fail
        go_roundw
        case rel => exact ⟨k + 1, by omega, by go_num, by rw [HH.out.1]; exact hV2, by rw [HH.out.2]; exact ⟨v', hM2, owV_mono ho2 hs⟩, q2, by omega⟩
        case measure => simp [intOf]; omega
    · obtain rfl : k = rs.length := by omega
      obtain ⟨I, hI⟩ : ∃ I, incTo rs rs.length = I := ⟨_, rfl⟩
      have HI := Lib.hid hI
      rw [hI] at hV hinc
      have hL2 := log_kept q hLog
      have hD2 := disk_kept (kt q1 q) HD.out
      have hrec : recB (.beg (I + 1)) = putNums [1, I + 1] := rfl
      have HREC := Lib.hid hrec
      obtain ⟨c0, c1, c2, f2⟩ := vault_cells hV
      have i0 : ((I : Int) == 1048576) = false := by simp; omega
      have hrl : (putNums [1, I + 1]).length = 4 := by rw [begin_rec (by omega) (by omega)]; rfl
      have HRL := Lib.hid hrl
      have hlt : lb < w1.heap.size := log_lt hLog
      have hda := disk_lt HD.out
      have hgen := HL.out.small
      clear hI hrec hrl hvs hve hLog
      go_wp2_with fail
      refine (putnum_any _ [1, I + 1] _ (elV_two _ _ rfl I) (by intro m hm; simp at hm; omega) (by simp)).mono ?_
      rintro e w3 ⟨v3, rfl, o3, q3⟩
      have q3 := kt (ka (k0 wr) _) q3
      have hV3 := vault_kept q3 hV
      have hM3 := mh_kept q3 hM
      have hL3 := log_kept q3 hL2
      have hD3 := disk_kept q3 hD2
      have k3 := kt q q3
      clear c0 c1 c2 f2 hV hM hL2 hD2
      go_wp2_with fail
      refine (sappend_any lb a g S p gen rs.length rs.length v3 (putNums [1, I + 1]) w3 hL3 hD3 (by omega) (by omega) (owV_elV o3) (by rw [HRL.out]; omega) hroom hp1 hp2 hgen (by omega)).mono ?_
      rintro e w4 hpost
      have k13 : Kept w w3 := kt q1 k3
      rcases hpost with ⟨rfl, rfl, hD4, hL4, x4⟩ | ⟨rfl, rfl, hD4, hL4, x4⟩ | ⟨hp0, hpo, rfl, hD4, hL4, x4⟩
      · have hX := xdrop (cs := [a, g]) (xt (xk k13) x4) (by intro k hk; simp at hk; simp; omega)
        go_wp2_with fail
        go_ret2
        exact .inl ⟨.inl rfl, rfl, .inl hD4, hX⟩
      · have hX := xdrop (cs := [a, g]) (xt (xk k13) x4) (by intro k hk; simp at hk; simp; omega)
        go_wp2_with fail
        go_ret2
        exact .inl ⟨.inr rfl, rfl, .inr (by rw [HI.out, HREC.out]; exact hD4), hX⟩
      · have hX := xdrop (cs := [a, g]) (xt (xk k13) x4) (by intro k hk; simp at hk; simp; omega)
        have hV4 := vault_x x4 hV3 (by simp; omega)
        have hM4 := mh_x x4 hM3 (by simp; omega) (by intro k hk; simp at hk; omega)
        obtain ⟨c0, c1, c2, f2⟩ := vault_cells hV4
        go_wp2_with fail
        go_ret2
        have hxs : KeptX [w1.heap.size + 1] w4 (w4.setCell ⟨w1.heap.size + 1, 2, none⟩ (.int .i64 ((I : Int) + 1))) := xset (x0 _ _) (by simp) _
        refine .inr ⟨hp0, hpo, w1.heap.size + 1, lb, w1.heap.size, w1.heap.size + 2, rfl, by omega, by omega, by omega, by omega, by omega, by omega, by omega, by omega, by omega, by omega, ?_, log_x hxs hL4 (by simp; omega), mh_x hxs hM4 (by simp) (by simp), ?_, ?_⟩
        · rw [HI.out]; exact vault_inc hV4 (I + 1)
        · rw [HI.out, HREC.out]; exact disk_x hxs hD4 (by simp; omega) (by simp; omega)
        · exact xdrop (cs := [a, g]) (xt (xm hX (cs := [a, g, w1.heap.size + 1]) (by simp)) (xm hxs (by simp))) (by intro k hk; simp at hk; simp; omega)
end Go.Proofs.Ytaifnopoojbcfaa
