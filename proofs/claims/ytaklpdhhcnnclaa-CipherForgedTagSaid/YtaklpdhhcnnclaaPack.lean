/- The sponge: Pack, in the program and in the reference. -/
import Derived.Test.YtaklpdhhcnnclaaList
import Derived.WalkLawsBesides
namespace Go.Proofs.Ytaklpdhhcnnclaa
open Go.RowKit

/-- Digits of base 256, the lowest first. -/
def packN : List Int → Int
  | [] => 0
  | b :: r => b + 256 * packN r
def pk (bs : List Int) (t : Nat) : Int := packN ((bs.drop (7 * t)).take 7)
def pkL (bs : List Int) (j : Nat) : List Int := (bs.length : Int) :: (List.range j).map (pk bs)
def pack (bs : List Int) : List Int := pkL bs ((bs.length + 6) / 7)

def AllB (xs : List Int) : Prop := ∀ x ∈ xs, 0 ≤ x ∧ x < 256
theorem AllB.get {xs : List Int} (h : AllB xs) {i : Nat} (hi : i < xs.length) : 0 ≤ xs.getD i 0 ∧ xs.getD i 0 < 256 := by
  rw [List.getD_eq_getElem?_getD, List.getElem?_eq_getElem hi]
  exact h _ (List.getElem_mem hi)
theorem AllB.take {xs : List Int} (h : AllB xs) (n : Nat) : AllB (xs.take n) := fun x hx => h x (List.mem_of_mem_take hx)
theorem AllB.drop {xs : List Int} (h : AllB xs) (n : Nat) : AllB (xs.drop n) := fun x hx => h x (List.mem_of_mem_drop hx)

theorem packN_snoc : ∀ (l : List Int) (d : Int), packN (l ++ [d]) = packN l + d * 256 ^ l.length
  | [], d => by simp [packN]
  | b :: r, d => by
    have := packN_snoc r d
    simp only [List.cons_append, packN, this, List.length_cons, Int.pow_succ]
    rw [Int.mul_add, ← Int.add_assoc]
    congr 1
    rw [Int.mul_comm 256, Int.mul_assoc]

theorem packN_bd : ∀ (l : List Int), AllB l → 0 ≤ packN l ∧ packN l < 256 ^ l.length
  | [], _ => by simp [packN]
  | b :: r, h => by
    have h1 := packN_bd r fun x hx => h x (by simp [hx])
    have h2 := h b (by simp)
    simp only [packN, List.length_cons, Int.pow_succ]
    omega

theorem pow256_le {n : Nat} (h : n ≤ 7) : (256 : Int) ^ n ≤ 72057594037927936 := by
  have : n = 0 ∨ n = 1 ∨ n = 2 ∨ n = 3 ∨ n = 4 ∨ n = 5 ∨ n = 6 ∨ n = 7 := by omega
  rcases this with rfl | rfl | rfl | rfl | rfl | rfl | rfl | rfl <;> decide

theorem packN_lt {l : List Int} (h : AllB l) (hl : l.length ≤ 7) : 0 ≤ packN l ∧ packN l < 72057594037927936 := by
  have h1 := packN_bd l h
  have h2 := pow256_le hl
  exact ⟨h1.1, by omega⟩

theorem pkL_succ (bs : List Int) (j : Nat) : pkL bs (j + 1) = pkL bs j ++ [pk bs j] := by
  simp [pkL, List.range_succ]

theorem pow_two_256 (i : Nat) : (2 : Int) ^ (8 * i) = 256 ^ i := by
  rw [Int.pow_mul]; rfl

theorem or_digit (q d : Int) (i : Nat) (hi : i ≤ 6) (hq : 0 ≤ q ∧ q < 256 ^ i) (hd : 0 ≤ d ∧ d < 256) : bits .or .u64 q (IntKind.u64.wrap (d * 2 ^ (8 * i))) = q + d * 256 ^ i := by
  obtain ⟨Q, rfl⟩ := Int.eq_ofNat_of_zero_le hq.1
  obtain ⟨D, rfl⟩ := Int.eq_ofNat_of_zero_le hd.1
  have hD : D < 256 := by omega
  have e : ((256 : Int) ^ i) = ((2 ^ (8 * i) : Nat) : Int) := by
    rw [← pow_two_256]; exact (Int.natCast_pow 2 (8 * i)).symm
  have hQ : Q < 2 ^ (8 * i) := by
    have := hq.2
    rw [e] at this
    omega
  have hp : 2 ^ (8 * i) ≤ 2 ^ 48 := Nat.pow_le_pow_right (by decide) (by omega)
  have hD2 : D * 2 ^ (8 * i) ≤ 255 * 2 ^ 48 := Nat.mul_le_mul (by omega) hp
  have h2 := Nat.two_pow_add_eq_or_of_lt hQ D
  rw [pow_two_256, e]
  have hM : 2 ^ (8 * i) * D ≤ 281474976710656 * 255 := by
    rw [Nat.mul_comm]
    have : D * 2 ^ (8 * i) ≤ 255 * 281474976710656 := hD2
    omega
  have hQ2 : Q < 281474976710656 := Nat.lt_of_lt_of_le hQ hp
  generalize 2 ^ (8 * i) = M at *
  have hw : IntKind.u64.wrap ((D : Int) * (M : Int)) = ((M * D : Nat) : Int) := by
    rw [IntKind.wrap_u64, ← Int.natCast_mul, Nat.mul_comm]
    omega
  rw [hw, u64_or_nat Q (M * D) (by omega) (by omega), Nat.or_comm, ← h2, ← Int.natCast_mul, Nat.mul_comm D M]
  omega

set_option maxHeartbeats 4000000 in
theorem Pack_any (ad : Option Addr) (c : Nat) (bs : List Int) (w : World) (hs : Sl w .u8 ad bs) (hw : AllB bs) (hl : bs.length < 1099511627776) (hcl : bs.length ≤ c) :
    Calls Try.prog 43 #[.slice ad bs.length c] w (RetSl w 22 .u64 (pack bs)) := by
  go_enter Try.func43, Try.ntmps43
  obtain ⟨K, hK⟩ : ∃ K, K = 1 + (bs.length + 6) / 7 := ⟨_, rfl⟩
  have hmk := fun W => run_mkI (P := Try.prog) (t := 31) (e := 22) (k := .u64) (bytes := 8) Try.underlying31 Try.infoU64 (by decide) (L := 1) (C := 1 + ((bs.length : Int) + 7 - 1) / 7) 1 K rfl (by omega) (by omega) (by omega) W
  obtain ⟨n, hn⟩ : ∃ n : Int, n = bs.length := ⟨_, rfl⟩
  have hcv : IntKind.u64.wrap (bs.length : Int) = n := by rw [IntKind.wrap_u64]; omega
  have hd0 : (madeCells #[Value.int .u64 0] K)[0]? = some (.int .u64 0) := by
    obtain ⟨K', rfl⟩ : ∃ K', K = K' + 1 := ⟨K - 1, by omega⟩
    simp [madeCells]
  replace hK := hide hK
  replace hn := hide hn
  have hK1 : 1 ≤ K := by rw [hK.out]; omega
  have hK2 : K < 1099511627776 := by rw [hK.out]; omega
  go_wp2_with fail
  refine name_world fun W hW => ?_
  have g0 : Own W w.heap.size 22 .u64 (.slice (some ⟨w.heap.size, 0, none⟩) 1 K) (pkL bs 0) := by
    have h1 := (Own.made (w := w) (base := w.heap.size) (E := 22) (k := .u64) (cap := K) 0 (Nat.le_refl _) (by simp only [maxLen]; omega))
    have h2 := Own.cut1 h1 hK1
    have h3 := Own.set h2 0 n
    rw [hW, alloc_set]
    have : pkL bs 0 = ([0] : List Int).set 0 n := by rw [hn.out]; rfl
    rw [this]
    exact h3
  have hB : Below w.heap.size w W := by rw [hW]; exact (Below.refl _ _).alloc (Nat.le_refl _) _
  clear hW hmk hd0 hcv
  go_loopw [3, 4] (fun t3 t4 wr => ∃ j : Nat, 7 * j ≤ bs.length + 6 ∧ t4 = .int .i64 ((7 * j : Nat) : Int) ∧ Own wr w.heap.size 22 .u64 t3 (pkL bs j) ∧ Below w.heap.size w wr) (fun _ t4 _ => bs.length + 7 - (intOf t4).toNat)
  case atStart => exact ⟨0, by omega, rfl, g0, hB⟩
  case round =>
    obtain ⟨j, hj, rfl, G, hb⟩ := hrel
    clear g0 hB
    by_cases hlt : 7 * j < bs.length
    · obtain ⟨b, off, rfl, hbl, hc⟩ := (hs.mono hb).get hlt
      obtain ⟨l, hl7⟩ : ∃ l, l = 7 * j := ⟨_, rfl⟩
      rw [← hl7] at hlt ⊢
      replace hl7 := hide hl7
      have hcap : ¬ c = l := by omega
      clear hc
      obtain ⟨part, hpart⟩ : ∃ part, part = (bs.drop l).take 7 := ⟨_, rfl⟩
      obtain ⟨m, hm⟩ : ∃ m, m = part.length := ⟨_, rfl⟩
      have hm1 : m = min 7 (bs.length - l) := by rw [hm, hpart]; simp
      have m0 : 0 < m := by omega
      have m7 : m ≤ 7 := by omega
      have ml : l + m ≤ bs.length := by omega
      have hmin : min ((l : Int) + 7) (bs.length : Int) = (l : Int) + m := by omega
      have hsub : ((l : Int) + m).toNat - l = m := by omega
      have hbp : AllB part := by rw [hpart]; exact (hw.drop l).take 7
      have hgp : ∀ i, i < m → part.getD i 0 = bs.getD (l + i) 0 := fun i hi => by
        rw [hpart]
        simp only [List.getD_eq_getElem?_getD]
        rw [List.getElem?_take_of_lt (by omega), List.getElem?_drop]
      have hpk : Hid (pk bs j = packN part) := hide (by rw [hpart, hl7.out]; rfl)
      replace hm := hide hm
      replace hgp := hide hgp
      replace hpart := hide hpart
      clear hm1
      go_wp2_with fail
      clear hmin hsub
      go_loop [6, 37] (fun t6 t37 => ∃ i : Nat, i ≤ m ∧ t37 = .int .i64 i ∧ t6 = .int .u64 (packN (part.take i))) (fun _ t37 => m - (intOf t37).toNat)
      case atStart => exact ⟨0, by omega, rfl, rfl⟩
      case round =>
        obtain ⟨i, hi, rfl, rfl⟩ := hrel
        by_cases hlt2 : i < m
        · obtain ⟨b', off', hbb, _, hc⟩ := (hs.mono hb).get (show l + i < bs.length by omega)
          cases hbb
          rw [← Nat.add_assoc, ← hgp.out i hlt2] at hc
          have hd := hbp.get (show i < part.length by rw [← hm.out]; exact hlt2)
          have hsn := packN_snoc (part.take i) (part.getD i 0)
          rw [← take_succ_getD part 0 (by rw [← hm.out]; exact hlt2)] at hsn
          have hlen : (part.take i).length = i := by rw [List.length_take, ← hm.out]; omega
          have hpb := packN_bd (part.take i) (hbp.take i)
          rw [hlen] at hsn hpb
          have h256 := pow256_le (show i ≤ 7 by omega)
          obtain ⟨d, hd'⟩ : ∃ d, d = part.getD i 0 := ⟨_, rfl⟩
          obtain ⟨q, hq⟩ : ∃ q, q = packN (part.take i) := ⟨_, rfl⟩
          rw [← hd'] at hc hd hsn
          rw [← hq] at hsn hpb ⊢
          replace hsn := hide hsn
          replace hpb := hide hpb
          replace h256 := hide h256
          clear hlen hd' hq
          go_wp2
          have hor := or_digit q d i (by omega) hpb.out hd
          go_round
          case rel => exact ⟨i + 1, by omega, by go_num, by rw [hsn.out, hor]⟩
          case measure => simp [intOf]; omega
        · obtain rfl : i = m := by omega
          have hfull : part.take i = part := List.take_of_length_le (by rw [← hm.out]; omega)
          rw [hfull, ← hpk.out]
          have hsl : pkL bs (j + 1) = pkL bs j ++ [pk bs j] := pkL_succ bs j
          have hlen : (pkL bs j).length = j + 1 := by simp [pkL]
          replace hsl := hide hsl
          replace hlen := hide hlen
          clear hfull
          go_wp2_with (at_builtin; refine wpList_app1 _ 22 .u64 _ rfl _ _ 31 rfl w.heap.size 8 Try.underlying31 Try.infoU64 (by decide) _ (pkL bs j) rfl rfl G (by have := hlen.out; omega) hb.size ?_; intro v' w' hown hg; refine Hold.mk ?_)
          refine Hold.go ?_
          have hb2 : Below w.heap.size w w' := hg.below hb G (Nat.le_refl _) hb.size
          rw [← hsl.out] at hown
          clear hg
          go_wp2
          go_roundw
          case rel => exact ⟨j + 1, by have := hl7.out; omega, by have := hl7.out; go_num, hown, hb2⟩
          case measure => have := hl7.out; simp [intOf]; omega
    · have hj2 : (bs.length + 6) / 7 = j := by omega
      go_wp2
      go_ret
      exact ⟨_, rfl, by unfold pack; rw [hj2]; exact G, hb⟩


/-! The reference. -/
def seg (bs : List Int) (i t : Nat) : Int := packN ((bs.drop (7 * t)).take (min 7 (i - 7 * t)))
def rkL (bs : List Int) (i : Nat) : List Int := (bs.length : Int) :: (List.range ((i + 6) / 7)).map (seg bs i)
def rk1 (bs : List Int) (i : Nat) : List Int := (bs.length : Int) :: (List.range (i / 7 + 1)).map (seg bs i)

theorem rk1_zero (bs : List Int) (i : Nat) (h : i % 7 = 0) : rk1 bs i = rkL bs i ++ [0] := by
  have e : (i + 6) / 7 = i / 7 := by omega
  have e2 : min 7 (i - 7 * (i / 7)) = 0 := by omega
  simp [rk1, rkL, e, List.range_succ, seg, e2, packN]
theorem rk1_pos (bs : List Int) (i : Nat) (h : ¬ i % 7 = 0) : rkL bs i = rk1 bs i := by
  have e : (i + 6) / 7 = i / 7 + 1 := by omega
  simp [rk1, rkL, e]
theorem rk1_len (bs : List Int) (i : Nat) : (rk1 bs i).length = i / 7 + 2 := by simp [rk1]
theorem rk1_get (bs : List Int) (i : Nat) : (rk1 bs i).getD (i / 7 + 1) 0 = seg bs i (i / 7) := by
  simp [rk1, List.getD_eq_getElem?_getD]
theorem seg_bd (bs : List Int) (hw : AllB bs) (i t : Nat) : 0 ≤ seg bs i t ∧ seg bs i t < 72057594037927936 := by
  unfold seg
  exact packN_lt ((hw.drop _).take _) (by rw [List.length_take]; omega)
theorem seg_step (bs : List Int) (i : Nat) (h : i < bs.length) : seg bs (i + 1) (i / 7) = seg bs i (i / 7) + bs.getD i 0 * 256 ^ (i % 7) := by
  have e1 : min 7 (i - 7 * (i / 7)) = i % 7 := by omega
  have e2 : min 7 (i + 1 - 7 * (i / 7)) = i % 7 + 1 := by omega
  unfold seg
  rw [e1, e2, take_succ_getD _ 0 (by rw [List.length_drop]; omega), packN_snoc, List.length_take, List.length_drop]
  have e3 : min (i % 7) (bs.length - 7 * (i / 7)) = i % 7 := by omega
  have e4 : (bs.drop (7 * (i / 7))).getD (i % 7) 0 = bs.getD i 0 := by
    simp only [List.getD_eq_getElem?_getD, List.getElem?_drop]
    rw [show 7 * (i / 7) + i % 7 = i by omega]
  rw [e3, e4]
theorem rk1_set (bs : List Int) (i : Nat) : (rk1 bs i).set (i / 7 + 1) (seg bs (i + 1) (i / 7)) = rkL bs (i + 1) := by
  have e : (i + 1 + 6) / 7 = i / 7 + 1 := by omega
  unfold rk1 rkL
  rw [e, List.set_cons_succ]
  congr 1
  refine List.ext_getElem (by simp) fun t h1 h2 => ?_
  rw [List.getElem_set]
  simp only [List.getElem_map, List.getElem_range]
  by_cases h : i / 7 = t
  · rw [if_pos h, h]
  · rw [if_neg h]
    have ht : t < i / 7 + 1 := by simpa using h1
    have a1 : min 7 (i - 7 * t) = 7 := by omega
    have a2 : min 7 (i + 1 - 7 * t) = 7 := by omega
    unfold seg
    rw [a1, a2]
theorem rkL_full (bs : List Int) : rkL bs bs.length = pack bs := by
  unfold rkL pack pkL
  congr 1
  refine List.map_congr_left fun t _ => ?_
  unfold seg pk
  congr 1
  rw [List.take_eq_take_iff]
  simp only [List.length_drop]
  omega

theorem Own.open_ {w : World} {base : Nat} {E : TypeId} {k : IntKind} {v : Value} {xs : List Int} {N : Nat} (h : Own w base E k v xs) (hN : xs.length = N) (h0 : 0 < N) : ∃ g cap, v = .slice (some ⟨g, 0, none⟩) N cap ∧ base ≤ g := by
  rcases h.form with ⟨rfl, rfl⟩ | ⟨g, cap, cur, rfl, h1, _⟩
  · simp at hN; omega
  · exact ⟨g, cap, by rw [hN], h1⟩

set_option maxHeartbeats 4000000 in
theorem rPack_any (ad : Option Addr) (c : Nat) (bs : List Int) (w : World) (hs : Sl w .u8 ad bs) (hw : AllB bs) (hl : bs.length < 1099511627776) :
    Calls Try.prog 44 #[.slice ad bs.length c] w (RetSl w 22 .u64 (pack bs)) := by
  go_enter Try.func44, Try.ntmps44
  obtain ⟨n, hn⟩ : ∃ n : Int, n = bs.length := ⟨_, rfl⟩
  have hcv : IntKind.u64.wrap (bs.length : Int) = n := by rw [IntKind.wrap_u64]; omega
  replace hn := hide hn
  go_wp2_with fail
  refine name_world fun W hW => ?_
  have g0 : Own W w.heap.size 22 .u64 (.slice (some ⟨w.heap.size, 0, none⟩) 1 1) (rkL bs 0) := by
    rw [hW]
    have h3 := Own.of_blk (w := w.alloc (.cells #[.int .u64 n] 22)) (base := w.heap.size) (k := .u64) (xs := [n]) (cap := 1) (Nat.le_refl _) (Blk.new w #[.int .u64 n] 22) (by simp) (by simp [maxLen]) rfl rfl
    have : rkL bs 0 = [n] := by rw [hn.out]; rfl
    rw [this]
    exact h3
  have hB : Below w.heap.size w W := by rw [hW]; exact (Below.refl _ _).alloc (Nat.le_refl _) _
  clear hW hcv
  go_loopw [3, 4] (fun t3 t4 wr => ∃ i : Nat, i ≤ bs.length ∧ t4 = .int .i64 i ∧ Own wr w.heap.size 22 .u64 t3 (rkL bs i) ∧ Below w.heap.size w wr) (fun _ t4 _ => bs.length - (intOf t4).toNat)
  case atStart => exact ⟨0, by omega, rfl, g0, hB⟩
  case round =>
    obtain ⟨i, hi, rfl, G, hb⟩ := hrel
    clear g0 hB
    by_cases hlt : i < bs.length
    · by_cases h7 : i % 7 = 0
      · have h70 : (i : Int) % 7 = 0 := by omega
        have hone := rk1_zero bs i h7
        have hlen : (rkL bs i).length = i / 7 + 1 := by have h := rk1_len bs i; rw [hone, List.length_append] at h; simpa using h
        replace hone := hide hone
        replace hlen := hide hlen
        replace h7 := hide h7
        go_wp2_with (at_builtin; refine wpList_app1 _ 22 .u64 _ rfl _ _ 31 rfl w.heap.size 8 Try.underlying31 Try.infoU64 (by decide) _ (rkL bs i) rfl rfl G (by have := hlen.out; omega) hb.size ?_; intro v' w' hown hg; refine Hold.mk ?_)
        refine Hold.go ?_
        replace hb : Below w.heap.size w w' := hg.below hb G (Nat.le_refl _) hb.size
        rw [← hone.out] at hown
        clear hg G h70 hlen hone
        have G := hown
        clear hown
        obtain ⟨b, off, rfl, hbl, hc⟩ := (hs.mono hb).get hlt
        obtain ⟨x, hx⟩ : ∃ x, x = bs.getD i 0 := ⟨_, rfl⟩
        have hxb := hw.get hlt
        have hss := seg_step bs i hlt
        have hset := rk1_set bs i
        have hget := rk1_get bs i
        have hsb := seg_bd bs hw i (i / 7)
        have hsb2 := seg_bd bs hw (i + 1) (i / 7)
        rw [← hx] at hc hxb hss
        rw [hss] at hsb2 hset
        obtain ⟨q, hq⟩ : ∃ q, q = seg bs i (i / 7) := ⟨_, rfl⟩
        rw [← hq] at hsb hsb2 hset hget
        obtain ⟨z, hz⟩ : ∃ z, z = x * 256 ^ (i % 7) := ⟨_, rfl⟩
        rw [← hz] at hsb2 hset
        replace hz := hide hz
        replace hset := hide hset
        obtain ⟨r, hr⟩ : ∃ r, r = i % 7 := ⟨_, rfl⟩
        have hr7 : r ≤ 6 := by omega
        have hri : (i : Int) % 7 = r := by omega
        rw [← hr] at hz
        replace hr := hide hr
        clear hq hss hx
        go_wp2_with fail
        go_loop [5, 6] (fun t5 t6 => ∃ k : Nat, k ≤ r ∧ t6 = .int .i64 k ∧ ∃ y : Int, Hid (y = x * 256 ^ k) ∧ t5 = .int .u64 y) (fun _ t6 => r - (intOf t6).toNat)
        case atStart => exact ⟨0, by omega, rfl, _, hide (by simp), rfl⟩
        case round =>
          obtain ⟨k, hk, rfl, y, hy, rfl⟩ := hrel
          by_cases hlt2 : k < r
          · have hpk := pow256_le (show k + 1 ≤ 7 by omega)
            have hp0 : (0 : Int) < 256 ^ k := Int.pow_pos (by decide)
            have hy2 : y * 256 = x * 256 ^ (k + 1) := by rw [hy.out, Int.mul_assoc, Int.pow_succ]
            have b1 : 0 ≤ y := by rw [hy.out]; exact Int.mul_nonneg hxb.1 (Int.le_of_lt hp0)
            have b2 : y * 256 ≤ 256 * 72057594037927936 - 72057594037927936 := by
              rw [hy2]
              have h1 : x * 256 ^ (k + 1) ≤ 255 * 72057594037927936 := Int.mul_le_mul (by omega) hpk (Int.le_of_lt (Int.pow_pos (by decide))) (by decide)
              omega
            have b3 : y * 256 < 18446744073709551616 := by omega
            replace hy2 := hide hy2
            clear hpk hp0 b2
            go_wp2
            go_round
            case rel => exact ⟨k + 1, by omega, by go_num, _, hide hy2.out, rfl⟩
            case measure => simp [intOf]; omega
          · obtain rfl : k = r := by omega
            have hyz : y = z := by rw [hy.out, hz.out]
            subst hyz
            obtain ⟨g, cap, rfl, hg0⟩ := G.open_ (rk1_len bs i) (by omega)
            have hc2 := G.cell (j := i / 7 + 1) (by omega)
            have hf := G.free (i / 7 + 1)
            rw [hget] at hc2
            have hdb : i / 7 ≤ bs.length := by omega
            have hsum : q + y < 18446744073709551616 := by omega
            have hy0 : 0 ≤ y := by
              have hp0 : (0 : Int) < 256 ^ k := Int.pow_pos (by decide)
              rw [hy.out]; exact Int.mul_nonneg hxb.1 (Int.le_of_lt hp0)
            have G2 := G.set (i / 7 + 1) (q + y)
            rw [hset.out] at G2
            have hb2 := hb.setCell (p := ⟨g, i / 7 + 1, none⟩) hg0 (.int .u64 (q + y))
            generalize i / 7 = d at *
            have hsub : (d : Int) + 2 - 1 = d + 1 := by omega
            clear hget hz hy hset hr
            go_wp2
            go_roundw
            case rel => exact ⟨i + 1, by omega, by go_num, G2, hb2⟩
            case measure => simp [intOf]; omega
      · have h70 : ((i : Int) % 7 == 0) = false := by simp; omega
        have hone := rk1_pos bs i h7
        rw [hone] at G
        clear hone
        replace h7 := hide h7
        obtain ⟨b, off, rfl, hbl, hc⟩ := (hs.mono hb).get hlt
        obtain ⟨x, hx⟩ : ∃ x, x = bs.getD i 0 := ⟨_, rfl⟩
        have hxb := hw.get hlt
        have hss := seg_step bs i hlt
        have hset := rk1_set bs i
        have hget := rk1_get bs i
        have hsb := seg_bd bs hw i (i / 7)
        have hsb2 := seg_bd bs hw (i + 1) (i / 7)
        rw [← hx] at hc hxb hss
        rw [hss] at hsb2 hset
        obtain ⟨q, hq⟩ : ∃ q, q = seg bs i (i / 7) := ⟨_, rfl⟩
        rw [← hq] at hsb hsb2 hset hget
        obtain ⟨z, hz⟩ : ∃ z, z = x * 256 ^ (i % 7) := ⟨_, rfl⟩
        rw [← hz] at hsb2 hset
        replace hz := hide hz
        replace hset := hide hset
        obtain ⟨r, hr⟩ : ∃ r, r = i % 7 := ⟨_, rfl⟩
        have hr7 : r ≤ 6 := by omega
        have hri : (i : Int) % 7 = r := by omega
        rw [hri] at h70
        rw [← hr] at hz
        replace hr := hide hr
        clear hq hss hx
        go_wp2_with fail
        go_loop [5, 6] (fun t5 t6 => ∃ k : Nat, k ≤ r ∧ t6 = .int .i64 k ∧ ∃ y : Int, Hid (y = x * 256 ^ k) ∧ t5 = .int .u64 y) (fun _ t6 => r - (intOf t6).toNat)
        case atStart => exact ⟨0, by omega, rfl, _, hide (by simp), rfl⟩
        case round =>
          obtain ⟨k, hk, rfl, y, hy, rfl⟩ := hrel
          by_cases hlt2 : k < r
          · have hpk := pow256_le (show k + 1 ≤ 7 by omega)
            have hp0 : (0 : Int) < 256 ^ k := Int.pow_pos (by decide)
            have hy2 : y * 256 = x * 256 ^ (k + 1) := by rw [hy.out, Int.mul_assoc, Int.pow_succ]
            have b1 : 0 ≤ y := by rw [hy.out]; exact Int.mul_nonneg hxb.1 (Int.le_of_lt hp0)
            have b2 : y * 256 ≤ 256 * 72057594037927936 - 72057594037927936 := by
              rw [hy2]
              have h1 : x * 256 ^ (k + 1) ≤ 255 * 72057594037927936 := Int.mul_le_mul (by omega) hpk (Int.le_of_lt (Int.pow_pos (by decide))) (by decide)
              omega
            have b3 : y * 256 < 18446744073709551616 := by omega
            replace hy2 := hide hy2
            clear hpk hp0 b2
            go_wp2
            go_round
            case rel => exact ⟨k + 1, by omega, by go_num, _, hide hy2.out, rfl⟩
            case measure => simp [intOf]; omega
          · obtain rfl : k = r := by omega
            have hyz : y = z := by rw [hy.out, hz.out]
            subst hyz
            obtain ⟨g, cap, rfl, hg0⟩ := G.open_ (rk1_len bs i) (by omega)
            have hc2 := G.cell (j := i / 7 + 1) (by omega)
            have hf := G.free (i / 7 + 1)
            rw [hget] at hc2
            have hdb : i / 7 ≤ bs.length := by omega
            have hsum : q + y < 18446744073709551616 := by omega
            have hy0 : 0 ≤ y := by
              have hp0 : (0 : Int) < 256 ^ k := Int.pow_pos (by decide)
              rw [hy.out]; exact Int.mul_nonneg hxb.1 (Int.le_of_lt hp0)
            have G2 := G.set (i / 7 + 1) (q + y)
            rw [hset.out] at G2
            have hb2 := hb.setCell (p := ⟨g, i / 7 + 1, none⟩) hg0 (.int .u64 (q + y))
            generalize i / 7 = d at *
            have hsub : (d : Int) + 2 - 1 = d + 1 := by omega
            clear hget hz hy hset hr
            go_wp2
            go_roundw
            case rel => exact ⟨i + 1, by omega, by go_num, G2, hb2⟩
            case measure => simp [intOf]; omega
    · obtain rfl : i = bs.length := by omega
      rw [rkL_full] at G
      go_wp2
      go_ret
      exact ⟨_, rfl, G, hb⟩

end Go.Proofs.Ytaklpdhhcnnclaa
