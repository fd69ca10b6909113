/- The law's fixed example of the vault holds. -/
import Derived.Test.YtaifnopoojbcfaaVerEq
namespace Go.Proofs.Ytaifnopoojbcfaa
open Go.RowKit
open BigFrame

theorem open_ok (a g : Nat) (S : List (List UInt8)) (gen : Nat) (rs : List Rec) (w : World) (hd : DiskAt w a g S (-1)) (hL : LogOn S gen (rs.map recB)) (hok : ∀ i, i < rs.length → RecOk rs i)
    (hroom : rs.length + 3 ≤ S.length) (hinc : incTo rs rs.length < 255) (hgen : gen < 1000) :
    Calls Try.prog 12 #[.pointer (some ⟨a, 0, none⟩)] w fun e w' => ∃ vb lb mb base S', e = .returned (.tuple #[.pointer (some ⟨vb, 0, none⟩), .int .i64 0]) ∧ w.heap.size ≤ vb ∧ w.heap.size ≤ lb ∧ w.heap.size ≤ mb ∧ w.heap.size ≤ base ∧ vb < base ∧ lb < base ∧ mb < base ∧ vb ≠ lb ∧ vb ≠ mb ∧ lb ≠ mb ∧
      VaultAt w' vb lb mb (incTo rs rs.length + 1) ∧ LogAt w' lb a (gen + 1) (rs.length + 1) (rs.length + 1) false ∧ MapHolds w' mb base (itTo rs rs.length) ∧ DiskAt w' a g S' (-1) ∧ LogOn S' (gen + 1) (rs.map recB ++ [recB (.beg (incTo rs rs.length + 1))]) ∧ S'.length = S.length ∧ KeptX [a, g] w w' := by
  refine (vopen_any a g S (-1) gen rs w hd hL hok hroom hinc (by omega) (by omega)).mono ?_
  rintro e w' (⟨hp, _⟩ | ⟨_, _, vb, lb, mb, base, he, h1, h2, h3, h4, h5, h6, h7, h8, h9, h10, h11, h12, h13, h14, h15⟩)
  · omega
  · have h46 := hd.2.2.2.2
    have happ := logOn_app hL (recB (.beg (incTo rs rs.length + 1))) (by simp only [recB]; rw [begin_rec (by omega) (by omega)]; simp) (by rw [List.length_map]; exact hroom) (by omega) (by rw [List.length_map]; omega)
    rw [List.length_map] at happ
    exact ⟨vb, lb, mb, base, _, he, h1, h2, h3, h4, h5, h6, h7, h8, h9, h10, h11, h12, h13, h14, happ, by simp, h15⟩

@[go_sem] theorem fold_ver (n : Int) (k : Id) : List.foldl (fun cs x => cs.setIfInBounds (1 + x.snd) x.fst) #[.int .i64 n, .int .u8 0, .int .u8 0, .int .u8 0, .int .u8 0, .int .u8 0, .int .u8 0, .int .u8 0, .int .u8 0, .int .u8 0, .int .u8 0, .int .u8 0, .int .u8 0, .int .u8 0, .int .u8 0, .int .u8 0, .int .u8 0] (idL k).zipIdx = (verL ⟨n, k⟩).toArray := by
  apply Array.toList_inj.1
  rw [fold_at 1 (idL k) _ (by simp)]
  simp [verL]
def c3 : Id := 3
def c6 : Id := 6
def c7 : Id := 7
def c8 : Id := 8
theorem n3 : (idL c3).toArray = #[.int .u8 0, .int .u8 0, .int .u8 0, .int .u8 0, .int .u8 0, .int .u8 0, .int .u8 0, .int .u8 0, .int .u8 0, .int .u8 0, .int .u8 0, .int .u8 0, .int .u8 0, .int .u8 0, .int .u8 0, .int .u8 (3 : Nat)] := by kernel_rfl
theorem n6 : (idL c6).toArray = #[.int .u8 0, .int .u8 0, .int .u8 0, .int .u8 0, .int .u8 0, .int .u8 0, .int .u8 0, .int .u8 0, .int .u8 0, .int .u8 0, .int .u8 0, .int .u8 0, .int .u8 0, .int .u8 0, .int .u8 0, .int .u8 (6 : Nat)] := by kernel_rfl
theorem n7 : (idL c7).toArray = #[.int .u8 0, .int .u8 0, .int .u8 0, .int .u8 0, .int .u8 0, .int .u8 0, .int .u8 0, .int .u8 0, .int .u8 0, .int .u8 0, .int .u8 0, .int .u8 0, .int .u8 0, .int .u8 0, .int .u8 0, .int .u8 (7 : Nat)] := by kernel_rfl
theorem n8 : (idL c8).toArray = #[.int .u8 0, .int .u8 0, .int .u8 0, .int .u8 0, .int .u8 0, .int .u8 0, .int .u8 0, .int .u8 0, .int .u8 0, .int .u8 0, .int .u8 0, .int .u8 0, .int .u8 0, .int .u8 0, .int .u8 0, .int .u8 (8 : Nat)] := by kernel_rfl
set_option maxHeartbeats 1600000 in
theorem n_any (k : Nat) (x : Id) (w : World) (h : (idL x).toArray = #[.int .u8 0, .int .u8 0, .int .u8 0, .int .u8 0, .int .u8 0, .int .u8 0, .int .u8 0, .int .u8 0, .int .u8 0, .int .u8 0, .int .u8 0, .int .u8 0, .int .u8 0, .int .u8 0, .int .u8 0, .int .u8 k]) :
    Calls Try.prog 15 #[.int .u8 k] w fun e w' => e = .returned (.agg (idL x).toArray) ∧ Kept w w' := by
  have h1 : rowOk #[.int .u8 0, .int .u8 0, .int .u8 0, .int .u8 0, .int .u8 0, .int .u8 0, .int .u8 0, .int .u8 0, .int .u8 0, .int .u8 0, .int .u8 0, .int .u8 0, .int .u8 0, .int .u8 0, .int .u8 0, .int .u8 k] 16 = true := by simp [rowOk, Value.oneCell']
  have h' := Lib.hid h
  clear h
  go_enter Try.func15, Try.ntmps15
  go_wp2_with fail
  rw [← h'.out]
  exact bodyPost_ret (v := .agg (idL x).toArray) (results_row rfl _ _ w.heap.size (idL x) _ 16 rfl (by go_simp) Try.underlying23 rfl (by kernel_rfl)) rfl ⟨rfl, ka (k0 _) _⟩

-- DEF begins
def vfixDs (vc X : Nat) : Nat → Value → World → Prop := fun t x _ =>
  match t with
  | 48 => x = .int .i64 0
  | 49 => x = .bool false
  | 50 => x = .bool false
  | 51 => x = .int .i64 0
  | 52 => x = .bool false
  | 53 => x = .bool false
  | 54 => x = .bool false
  | 55 => x = .pointer (some ⟨vc, 0, none⟩)
  | 56 => x = .bool false
  | 57 => x = .bool false
  | 58 => x = .bool false
  | 59 => x = .pointer (some ⟨vc, 0, none⟩)
  | 60 => x = .int .i64 2
  | 61 => x = .bool false
  | 62 => x = .bool false
  | 63 => x = .bool false
  | 64 => x = .pointer (some ⟨X, 16, none⟩)
  | 65 => x = .agg (verL ⟨1, c7⟩).toArray
  | 66 => x = .agg (idL c7).toArray
  | 67 => x = .agg (verL ⟨1, c7⟩).toArray
  | 68 => x = .bool false
  | 69 => x = .bool false
  | _ => True
-- DEF ends
set_option maxRecDepth 100000 in
set_option maxHeartbeats 3200000 in
theorem fixed_any (w : World) : Calls Try.prog 5 #[] w fun e w' => e = .returned (.bool true) ∧ Kept w w' := by
  have kc := fun (w : World) (C : Array Value) (n c : Nat) => Lib.run_convert_bytes_const (P := Try.prog) w 26 5 C n c Try.underlying26 Try.underlying5
  go_enter Try.func5, Try.ntmps5
  go_wp2_with fail
  refine (dnew_any 20 _ (by omega)).mono ?_
  rintro e w1 ⟨a, g, rfl, ha, hg, hD1, q1⟩
  have hlt1 := disk_lt hD1
  go_wp2_with fail
  refine (open_ok a g _ 0 [] w1 hD1 (logOn_zero 20 (by omega)) (by intro i hi; simp at hi) (by simp) (by simp [incTo]) (by omega)).mono ?_
  rintro e w2 ⟨vb, lb, mb, base, S2, rfl, o1, o2, o3, o4, o5, o6, o7, o8, o9, o10, hV2, hL2, hM2, hD2, hLg2, hS2, x2⟩
  have hV2 : VaultAt w2 vb lb mb 1 := hV2
  have hL2 : LogAt w2 lb a 1 1 1 false := hL2
  have hM2 : MapAt w2 mb none := hM2
  have hLg2 : LogOn S2 1 [recB (.beg 1)] := hLg2
  have hS2 : S2.length = 20 := by rw [hS2, List.length_replicate]
  go_wp2_with fail
  refine (inc_any vb lb mb 1 _ hV2).mono ?_
  rintro e w3 ⟨rfl, q3⟩
  go_wp2_with fail
  refine (n_any 3 c3 _ n3).mono ?_
  rintro e w4 ⟨rfl, q4⟩
  go_wp2_with fail
  refine (n_any 7 c7 _ n7).mono ?_
  rintro e w5 ⟨rfl, q5⟩
  have q23 : Kept w2 w4 := kt q3 q4
  have q45 : Kept w4 w5 := kt (ka (k0 _) _) q5
  have q25 := kt q23 q45
  have hE5 : ElV w5 (.slice (some ⟨w4.heap.size, 0, none⟩) 1 1) (bL [97]) := elV_kept q5 (elV_marked w4 _ _ _)
  clear q3 q4 q5
  go_wp2_with fail
  refine (put_any vb lb mb 1 a g S2 1 1 c3 c7 _ [97] w5 (vault_kept q25 hV2) (map_kept q25 hM2) (log_kept q25 hL2) (disk_kept q25 hD2) hE5 (by simp) (by simp) (by omega) (by omega) (by omega) (by omega) (by omega) (by omega) (by omega) (by omega) (by omega) (by omega) (by omega) (by omega)).mono ?_
  rintro e w6 ⟨⟨a6, cp6, rfl⟩, hD6, x6⟩
  have hro := rowOk_item ⟨c3, ⟨1, c7⟩, .slice a6 1 cp6⟩ rfl
  have hf : (formB c3 1 c7 [97]).length = 39 := by rw [formB_small (by omega) (by omega) (by simp) (by simp)]; simp [bytL_length]
  have hLg6 := logOn_app hLg2 (formB c3 1 c7 [97]) (by omega) (by simp; omega) (by omega) (by simp)
  obtain ⟨S3, hS3⟩ : ∃ S3, ((S2.set (2 + 1) (recSec (formB c3 1 c7 [97]))).set ((1 + 1) % 2) (headSec (1 + 1) (1 + 1) (1 + 1))) = S3 := ⟨_, rfl⟩
  have hlen3 : S3.length = 20 := by rw [← hS3]; simpa using hS2
  rw [hS3] at hD6
  have hLg6 : LogOn S3 2 [recB (.beg 1), recB (.item c3 c7 1 [97])] := by rw [← hS3]; exact hLg6
  have k26 : KeptX [a, g, lb, mb] w2 w6 := xt (xk q25) x6
  have HF := Lib.hid (And.intro hf hS3)
  have hz6 := x6.size
  have hz25 := q25.size
  have hz2 := x2.size
  clear hf hS3
  go_wp2_with fail
  refine (open_ok a g S3 2 [.beg 1, .item c3 c7 1 [97]] _ (disk_kept (ka (k0 w6) _) hD6) hLg6 (by
    intro i hi
    have : i = 0 ∨ i = 1 := by simp at hi; omega
    rcases this with rfl | rfl
    · show 0 < 1 ∧ 1 < 256; omega
    · show (none : Option (Id × Id × Nat × List UInt8)) = none ∧ 0 < 1 ∧ 1 < 256 ∧ 0 < [(97 : UInt8)].length ∧ [(97 : UInt8)].length ≤ 20
      simp) (by simp; omega) (by show 1 < 255; omega) (by omega)).mono ?_
  rintro e w7 ⟨vc, lc, mc, bc, S4, rfl, p1, p2, p3, p4, p5, p6, p7, p8, p9, p10, hV7, hL7, hM7, hD7, hLg7, hS7, x7⟩
  have hV7 : VaultAt w7 vc lc mc 2 := hV7
  have hL7 : LogAt w7 lc a 3 3 3 false := hL7
  obtain ⟨v8, hM7, hO7⟩ : MapHolds w7 mc bc (some (c3, c7, 1, [97])) := hM7
  have r7 : rowAt w7 w6.heap.size 0 34 = some (itemL ⟨c3, ⟨1, c7⟩, .slice a6 1 cp6⟩) := rowAt_x x7 (rowAt_alloc_at _ _ _ _ _ rfl (itemL_length _)) (by simp; omega)
  have hV7' := Lib.hid hV7
  have hpp : w6.heap.size + 1 ≤ vc ∧ w6.heap.size + 1 ≤ lc ∧ w6.heap.size + 1 ≤ mc := ⟨by simpa using p1, by simpa using p2, by simpa using p3⟩
  obtain ⟨a8, cp8, rfl, -, -⟩ := elV_form (owV_elV hO7)
  have hS4 : S4.length = 20 := by rw [hS7, hlen3]
  go_wp2_with fail
  refine wp_region_loose (vfixDs vc w6.heap.size) ?mk (by kernel_rfl) (by kernel_rfl) ?hmk ?hmono ?hstep ?hQ
  case hmk =>
    intro f
    simp only [mkOf, List.foldl, Act.put, List.setIfInBounds_toArray, List.set_cons_zero, List.set_cons_succ]
    rfl
  case hmono =>
    intro t x W1 W2 h hk
    unfold vfixDs at h ⊢
    split <;> simp only at h ⊢ <;> exact h
-- STEPS begins
  case hstep =>
    refine ⟨?s0, ?s1, ?s2, ?s3, ?s4, ?s5, ?s6, ?s7, ?s8, ?s9, ?s10, ?s11, ?s12, ?s13, ?s14, ?s15, ?s16, ?s17, ?s18, ?s19, ?s20, ?s21, trivial⟩
    case s0 =>
      intro f W2 hk hd
      rw [if_pos (by kernel_rfl)]
      intro K hK
      go_simp
      exact hK _ _ ⟨.int .i64 0, by simp [Act.put], k0 _, fun t ht => by obtain rfl := Option.some.inj ht; exact rfl⟩
    case s1 =>
      intro f W2 hk hd
      have h48 : f 48 = .int .i64 0 := dep hd 48 (by kernel_rfl)
      rw [if_pos (by kernel_rfl)]
      intro K hK
      go_simp
      exact hK _ _ ⟨.bool false, by simp [Act.put, h48], k0 _, fun t ht => by obtain rfl := Option.some.inj ht; exact rfl⟩
    case s2 =>
      intro f W2 hk hd
      have h49 : f 49 = .bool false := dep hd 49 (by kernel_rfl)
      rw [if_pos (by kernel_rfl)]
      intro K hK
      go_simp
      exact hK _ _ ⟨.bool false, by simp [Act.put, h49], k0 _, fun t ht => by obtain rfl := Option.some.inj ht; exact rfl⟩
    case s3 =>
      intro f W2 hk hd
      have h50 : f 50 = .bool false := dep hd 50 (by kernel_rfl)
      rw [if_pos (by simp [Region.wanted, yielded, h50])]
      intro K hK
      go_simp
      exact hK _ _ ⟨.int .i64 0, by simp [Act.put, h50], k0 _, fun t ht => by obtain rfl := Option.some.inj ht; exact rfl⟩
    case s4 =>
      intro f W2 hk hd
      have h50 : f 50 = .bool false := dep hd 50 (by kernel_rfl)
      have h51 : f 51 = .int .i64 0 := dep hd 51 (by kernel_rfl)
      rw [if_pos (by simp [Region.wanted, yielded, h50])]
      intro K hK
      go_simp
      exact hK _ _ ⟨.bool false, by simp [Act.put, h50, h51], k0 _, fun t ht => by obtain rfl := Option.some.inj ht; exact rfl⟩
    case s5 =>
      intro f W2 hk hd
      have h50 : f 50 = .bool false := dep hd 50 (by kernel_rfl)
      have h52 : f 52 = .bool false := dep hd 52 (by kernel_rfl)
      rw [if_pos (by kernel_rfl)]
      intro K hK
      go_simp
      exact hK _ _ ⟨.bool false, by simp [Act.put, h50, h52], k0 _, fun t ht => by obtain rfl := Option.some.inj ht; exact rfl⟩
    case s6 =>
      intro f W2 hk hd
      have h53 : f 53 = .bool false := dep hd 53 (by kernel_rfl)
      rw [if_pos (by kernel_rfl)]
      intro K hK
      go_simp
      exact hK _ _ ⟨.bool false, by simp [Act.put, h53], k0 _, fun t ht => by obtain rfl := Option.some.inj ht; exact rfl⟩
    case s7 =>
      intro f W2 hk hd
      have h54 : f 54 = .bool false := dep hd 54 (by kernel_rfl)
      rw [if_pos (by simp [Region.wanted, yielded, h54])]
      intro K hK
      go_simp
      exact hK _ _ ⟨.pointer (some ⟨vc, 0, none⟩), by simp [Act.put, h54], k0 _, fun t ht => by obtain rfl := Option.some.inj ht; exact rfl⟩
    case s8 =>
      intro f W2 hk hd
      have h54 : f 54 = .bool false := dep hd 54 (by kernel_rfl)
      have h55 : f 55 = .pointer (some ⟨vc, 0, none⟩) := dep hd 55 (by kernel_rfl)
      rw [if_pos (by simp [Region.wanted, yielded, h54])]
      intro K hK
      go_simp
      exact hK _ _ ⟨.bool false, by simp [Act.put, h54, h55], k0 _, fun t ht => by obtain rfl := Option.some.inj ht; exact rfl⟩
    case s9 =>
      intro f W2 hk hd
      have h54 : f 54 = .bool false := dep hd 54 (by kernel_rfl)
      have h56 : f 56 = .bool false := dep hd 56 (by kernel_rfl)
      rw [if_pos (by kernel_rfl)]
      intro K hK
      go_simp
      exact hK _ _ ⟨.bool false, by simp [Act.put, h54, h56], k0 _, fun t ht => by obtain rfl := Option.some.inj ht; exact rfl⟩
    case s10 =>
      intro f W2 hk hd
      have h57 : f 57 = .bool false := dep hd 57 (by kernel_rfl)
      rw [if_pos (by kernel_rfl)]
      intro K hK
      go_simp
      exact hK _ _ ⟨.bool false, by simp [Act.put, h57], k0 _, fun t ht => by obtain rfl := Option.some.inj ht; exact rfl⟩
    case s11 =>
      intro f W2 hk hd
      have h58 : f 58 = .bool false := dep hd 58 (by kernel_rfl)
      rw [if_pos (by simp [Region.wanted, yielded, h58])]
      intro K hK
      go_simp
      exact hK _ _ ⟨.pointer (some ⟨vc, 0, none⟩), by simp [Act.put, h58], k0 _, fun t ht => by obtain rfl := Option.some.inj ht; exact rfl⟩
    case s12 =>
      intro f W2 hk hd
      have h58 : f 58 = .bool false := dep hd 58 (by kernel_rfl)
      have h59 : f 59 = .pointer (some ⟨vc, 0, none⟩) := dep hd 59 (by kernel_rfl)
      rw [if_pos (by simp [Region.wanted, yielded, h58])]
      intro K hK
      go_simp
      refine (inc_any vc lc mc 2 _ (vault_kept hk hV7'.out)).mono ?_
      rintro e w' ⟨rfl, hkk⟩
      exact hK _ _ ⟨.int .i64 2, by simp [Act.put, h58, h59], hkk, fun t ht => by obtain rfl := Option.some.inj ht; exact rfl⟩
    case s13 =>
      intro f W2 hk hd
      have h58 : f 58 = .bool false := dep hd 58 (by kernel_rfl)
      have h60 : f 60 = .int .i64 2 := dep hd 60 (by kernel_rfl)
      rw [if_pos (by simp [Region.wanted, yielded, h58])]
      intro K hK
      go_simp
      exact hK _ _ ⟨.bool false, by simp [Act.put, h58, h60], k0 _, fun t ht => by obtain rfl := Option.some.inj ht; exact rfl⟩
    case s14 =>
      intro f W2 hk hd
      have h58 : f 58 = .bool false := dep hd 58 (by kernel_rfl)
      have h61 : f 61 = .bool false := dep hd 61 (by kernel_rfl)
      rw [if_pos (by kernel_rfl)]
      intro K hK
      go_simp
      exact hK _ _ ⟨.bool false, by simp [Act.put, h58, h61], k0 _, fun t ht => by obtain rfl := Option.some.inj ht; exact rfl⟩
    case s15 =>
      intro f W2 hk hd
      have h62 : f 62 = .bool false := dep hd 62 (by kernel_rfl)
      rw [if_pos (by kernel_rfl)]
      intro K hK
      go_simp
      exact hK _ _ ⟨.bool false, by simp [Act.put, h62], k0 _, fun t ht => by obtain rfl := Option.some.inj ht; exact rfl⟩
    case s16 =>
      intro f W2 hk hd
      have h63 : f 63 = .bool false := dep hd 63 (by kernel_rfl)
      rw [if_pos (by simp [Region.wanted, yielded, h63])]
      intro K hK
      go_simp
      exact hK _ _ ⟨.pointer (some ⟨w6.heap.size, 16, none⟩), by simp [Act.put, h63], k0 _, fun t ht => by obtain rfl := Option.some.inj ht; exact rfl⟩
    case s17 =>
      intro f W2 hk hd
      have h63 : f 63 = .bool false := dep hd 63 (by kernel_rfl)
      have h64 : f 64 = .pointer (some ⟨w6.heap.size, 16, none⟩) := dep hd 64 (by kernel_rfl)
      rw [if_pos (by simp [Region.wanted, yielded, h63])]
      intro K hK
      have r9 : rowAt W2 w6.heap.size 16 17 = some (verL ⟨1, c7⟩) := item_ver (rowAt_below hk r7)
      go_simp
      exact hK _ _ ⟨.agg (verL ⟨1, c7⟩).toArray, by simp [Act.put, h63, h64], k0 _, fun t ht => by obtain rfl := Option.some.inj ht; exact rfl⟩
    case s18 =>
      intro f W2 hk hd
      have h63 : f 63 = .bool false := dep hd 63 (by kernel_rfl)
      rw [if_pos (by simp [Region.wanted, yielded, h63])]
      intro K hK
      go_simp
      refine (n_any 7 c7 _ n7).mono ?_
      rintro e w' ⟨rfl, hkk⟩
      exact hK _ _ ⟨.agg (idL c7).toArray, by simp [Act.put, h63], hkk, fun t ht => by obtain rfl := Option.some.inj ht; exact rfl⟩
    case s19 =>
      intro f W2 hk hd
      have h63 : f 63 = .bool false := dep hd 63 (by kernel_rfl)
      have h66 : f 66 = .agg (idL c7).toArray := dep hd 66 (by kernel_rfl)
      rw [if_pos (by simp [Region.wanted, yielded, h63])]
      intro K hK
      go_simp
      exact hK _ _ ⟨.agg (verL ⟨1, c7⟩).toArray, by simp [Act.put, h63, h66], k0 _, fun t ht => by obtain rfl := Option.some.inj ht; exact rfl⟩
    case s20 =>
      intro f W2 hk hd
      have h63 : f 63 = .bool false := dep hd 63 (by kernel_rfl)
      have h65 : f 65 = .agg (verL ⟨1, c7⟩).toArray := dep hd 65 (by kernel_rfl)
      have h67 : f 67 = .agg (verL ⟨1, c7⟩).toArray := dep hd 67 (by kernel_rfl)
      rw [if_pos (by simp [Region.wanted, yielded, h63])]
      intro K hK
      go_simp
      exact hK _ _ ⟨.bool false, by simp [Act.put, h63, h65, h67], k0 _, fun t ht => by obtain rfl := Option.some.inj ht; exact rfl⟩
    case s21 =>
      intro f W2 hk hd
      have h63 : f 63 = .bool false := dep hd 63 (by kernel_rfl)
      have h68 : f 68 = .bool false := dep hd 68 (by kernel_rfl)
      rw [if_pos (by kernel_rfl)]
      intro K hK
      go_simp
      exact hK _ _ ⟨.bool false, by simp [Act.put, h63, h68], k0 _, fun t ht => by obtain rfl := Option.some.inj ht; exact rfl⟩
-- STEPS ends
  case hQ =>
    intro f W8 hk8 hdd
    have h69 : f 69 = .bool false := hdd 69 (dst_of (by kernel_rfl))
    rw [h69]
    clear hdd h69 hL2
    go_wp2_with fail
    refine (n_any 3 c3 _ n3).mono ?_
    rintro e w9 ⟨rfl, q9⟩
    go_wp2_with fail
    have k9 : Kept w7 w9 := kt hk8 q9
    refine (get_any vc lc mc 2 c3 _ [97] _ (vault_kept k9 hV7'.out) (map_kept k9 hM7) rfl (elV_kept k9 (owV_elV hO7)) (by simp)).mono ?_
    rintro e w10 ⟨v10, rfl, o10, q10⟩
    obtain ⟨a10, cp10, rfl, -, -⟩ := elV_form (owV_elV o10)
    have hro10 := rowOk_item ⟨c3, ⟨1, c7⟩, .slice a10 1 cp10⟩ rfl
    have hszd := disk_lt hD7
    have hszl := log_lt hL7
    have hszm := map_lt hM7
    have hszv := vault_lt hV7'.out
    have k10 := kt k9 q10
    have hk10s := k10.size
    have hHO := Lib.hid (owV_x (bs := []) (x0 _ _) o10 (by simp))
    have hk9s := k9.size
    clear o10 q9 q10 hk8
    go_wp2_with fail
    refine (n_any 3 c3 _ n3).mono ?_
    rintro e w11 ⟨rfl, q11⟩
    go_wp2_with fail
    refine (n_any 6 c6 _ n6).mono ?_
    rintro e w12 ⟨rfl, q12⟩
    have k12 : Kept w10 w12 := kt (ka (k0 _) _) (kt q11 q12)
    have ry : rowAt w12 w10.heap.size 0 34 = some (itemL ⟨c3, ⟨1, c7⟩, .slice a10 1 cp10⟩) := rowAt_below (kt q11 q12) (rowAt_alloc_at _ _ _ _ _ rfl (itemL_length _))
    have hlt12 : w10.heap.size < w12.heap.size := rowAt_size ry
    have k712 := kt k10 k12
    clear q11 q12
    go_wp2_with (with_reducible refine stop_slot 81 rfl ?_)
    refine Stopped.go (wpList_build_item2 rfl (.tmp 78) (.tmp 80) rfl c3 ⟨1, c6⟩ rfl rfl ?_)
    go_wp2_with fail
    refine (merge_old vc lc mc 2 c3 c6 _ _ (vault_kept k712 hV7'.out) (map_kept k712 hM7) rfl (by show newerB ⟨1, c6⟩ ⟨((1 : Nat) : Int), c7⟩ = false; decide)).mono ?_
    rintro e w13 ⟨rfl, q13⟩
    go_wp2_with fail
    refine (n_any 3 c3 _ n3).mono ?_
    rintro e w14 ⟨rfl, q14⟩
    go_wp2_with fail
    refine (n_any 8 c8 _ n8).mono ?_
    rintro e w15 ⟨rfl, q15⟩
    have k15 := kt q13 (kt q14 q15)
    have k715 := kt k712 k15
    clear q13 q14 q15
    go_wp2_with (with_reducible refine stop_slot 90 rfl ?_)
    refine Stopped.go (wpList_build_item2 rfl (.tmp 87) (.tmp 89) rfl c3 ⟨1, c8⟩ rfl rfl ?_)
    go_wp2_with fail
    refine (merge_new vc lc mc 2 a g S4 3 3 c3 c8 _ _ (vault_kept k715 hV7'.out) (map_kept k715 hM7) (log_kept k715 hL7) (disk_kept k715 hD7) rfl (by show newerB ⟨1, c8⟩ ⟨((1 : Nat) : Int), c7⟩ = true; decide) (by omega) (by omega) (by omega) (by omega) (by omega) (by omega) (by omega) (by omega) (by omega) (by omega) (by omega) (by omega)).mono ?_
    rintro e w16 ⟨rfl, hV16, hL16, x16⟩
    have hk1215 := k15.size
    have c33 : w16.cell? ⟨w10.heap.size, 33, none⟩ = some (.slice a10 1 cp10) := item_val (x := ⟨c3, ⟨1, c7⟩, .slice a10 1 cp10⟩) (rowAt_x x16 (rowAt_below k15 ry) (by simp; omega))
    have ho16 : OwV w16 w9.heap.size 5 (.slice a10 1 cp10) (bL [97]) := owV_x (x16) (owV_kept (kt k12 k15) hHO.out) (by intro k hk; simp at hk; omega)
    have fs := run_strOf (owV_elV ho16)
    have h5 := o5
    clear ry k15 hro hro10 ho16 hHO
    go_wp2_with fail
    refine (vdown_any vc lc mc 2 a _ _ _ false _ hV16 hL16).mono ?_
    rintro e w17 ⟨rfl, q17⟩
    go_wp2_with fail
    go_ret
    refine ⟨rfl, xkept (bs := [a, g, lb, mb, lc, mc]) ?_ (by intro k hk; have := q1.size; simp at hk; omega)⟩
    have z1 : KeptX [a, g, lb, mb, lc, mc] w w6 := xt (xt (xk q1) (xm x2 (by simp))) (xm k26 (by simp))
    have z2 : KeptX [a, g, lb, mb, lc, mc] w w7 := xt z1 (xt (xk (ka (k0 _) _)) (xm x7 (by simp)))
    exact xt (xt z2 (xk k715)) (xt (xm x16 (by simp)) (xk q17))
end Go.Proofs.Ytaifnopoojbcfaa
