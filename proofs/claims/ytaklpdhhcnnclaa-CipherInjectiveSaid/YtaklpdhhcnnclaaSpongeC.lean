/- The sponge: HashBytes, lists reduced, and what holds of hashes of reduced lists. -/
import Derived.Test.YtaklpdhhcnnclaaSqueeze
import Derived.Test.YtaklpdhhcnnclaaPack
import Derived.Test.YtaklpdhhcnnclaaMath
namespace Go.Proofs.Ytaklpdhhcnnclaa
open Go.RowKit

theorem pack_W {bs : List Int} (hw : AllB bs) (hl : bs.length < 1099511627776) : AllW (pack bs) := by
  intro x hx
  unfold pack pkL at hx
  rcases List.mem_cons.1 hx with rfl | hx
  · omega
  · obtain ⟨t, _, rfl⟩ := List.mem_map.1 hx
    have := packN_lt ((hw.drop (7 * t)).take 7) (by rw [List.length_take]; omega)
    unfold pk
    omega
theorem pack_len (bs : List Int) : (pack bs).length = 1 + (bs.length + 6) / 7 := by simp [pack, pkL]; omega

def big : Int := 18446744069414584321
def hashBytes (lb : Int) (bs : List Int) : Int := hash big lb (pack bs)

set_option maxHeartbeats 1000000 in
theorem HashBytes_any (lb : Int) (ad : Option Addr) (c : Nat) (bs : List Int) (w : World) (l0 : 0 ≤ lb) (l1 : lb < 18446744073709551616) (hs : Sl w .u8 ad bs) (hw : AllB bs) (hl : bs.length < 1099511627776) (hcl : bs.length ≤ c) :
    Calls Try.prog 45 #[.int .u64 lb, .slice ad bs.length c] w fun e w' => e = .returned (.int .u64 (hashBytes lb bs)) ∧ Below w.heap.size w w' := by
  obtain ⟨R, hR⟩ : ∃ R, R = hashBytes lb bs := ⟨_, rfl⟩
  rw [← hR]
  replace hR := hide hR
  go_enter Try.func45, Try.ntmps45
  go_wp2_with fail
  refine (Pack_any ad c bs _ hs hw hl hcl).mono ?_
  rintro e w1 ⟨v, rfl, hown, hb1⟩
  obtain ⟨ad', c', rfl, hsl, _, _⟩ := hown.sl
  go_wp2_with fail
  refine (Hash_any big lb ad' c' (pack bs) _ l0 l1 hsl (pack_W hw hl) (by rw [pack_len]; omega)).mono ?_
  rintro e w2 ⟨rfl, hb2⟩
  go_wp2
  go_ret
  exact ⟨ret_int hR.out.symm, below2 hb1 hb2⟩

set_option maxHeartbeats 1000000 in
theorem rHashBytes_any (lb : Int) (ad : Option Addr) (c : Nat) (bs : List Int) (w : World) (l0 : 0 ≤ lb) (l1 : lb < 18446744073709551616) (hs : Sl w .u8 ad bs) (hw : AllB bs) (hl : bs.length < 1099511627776) :
    Calls Try.prog 46 #[.int .u64 lb, .slice ad bs.length c] w fun e w' => e = .returned (.int .u64 (hashBytes lb bs)) ∧ Below w.heap.size w w' := by
  obtain ⟨R, hR⟩ : ∃ R, R = hashBytes lb bs := ⟨_, rfl⟩
  rw [← hR]
  replace hR := hide hR
  go_enter Try.func46, Try.ntmps46
  go_wp2_with fail
  refine (rPack_any ad c bs _ hs hw hl).mono ?_
  rintro e w1 ⟨v, rfl, hown, hb1⟩
  obtain ⟨ad', c', rfl, hsl, _, _⟩ := hown.sl
  go_wp2_with fail
  refine (rHash_any big lb ad' c' (pack bs) _ l0 l1 hsl (pack_W hw hl) (by rw [pack_len]; omega)).mono ?_
  rintro e w2 ⟨rfl, hb2⟩
  go_wp2
  go_ret
  exact ⟨ret_int hR.out.symm, below2 hb1 hb2⟩

/-! ref04.Reduced. -/
def redL (p : Int) (xs : List Int) : List Int := xs.map fun x => x % p
theorem redL_snoc (p : Int) (xs : List Int) (x : Int) : redL p (xs ++ [x]) = redL p xs ++ [x % p] := by simp [redL]

set_option maxHeartbeats 2000000 in
theorem rReduced_any (p : Int) (ad : Option Addr) (c : Nat) (xs : List Int) (w : World) (p0 : 0 < p) (p1 : p < 18446744073709551616) (hs : Sl w .u64 ad xs) (hw : AllW xs) (hl : xs.length < 1099511627776) :
    Calls Try.prog 41 #[.int .u64 p, .slice ad xs.length c] w (RetSl w 22 .u64 (redL p xs)) := by
  go_enter Try.func41, Try.ntmps41
  have g0 : Own w w.heap.size 22 .u64 (.slice none 0 0) (redL p (xs.take 0)) := Own.nil _ _ _ _
  go_wp2_with fail
  go_loopw [5, 6] (fun t5 t6 wr => ∃ i : Nat, i ≤ xs.length ∧ t6 = .int .i64 i ∧ Own wr w.heap.size 22 .u64 t5 (redL p (xs.take i)) ∧ Below w.heap.size w wr) (fun _ t6 _ => xs.length - (intOf t6).toNat)
  case atStart => exact ⟨0, by omega, rfl, g0, Below.refl _ _⟩
  case round =>
    obtain ⟨i, hi, rfl, G, hb⟩ := hrel
    clear g0
    by_cases hlt : i < xs.length
    · obtain ⟨b, off, rfl, hbl, hc⟩ := (hs.mono hb).get hlt
      obtain ⟨x0, x1⟩ := hw.get hlt
      have hst := redL_snoc p (xs.take i) (xs.getD i 0)
      rw [← take_succ_getD xs 0 hlt] at hst
      obtain ⟨x, hx⟩ : ∃ x, x = xs.getD i 0 := ⟨_, rfl⟩
      rw [← hx] at hc x0 x1 hst
      replace hst := hide hst
      have hlen : Hid ((redL p (xs.take i)).length = i) := hide (by simp [redL]; omega)
      clear hx
      go_wp2_with (at_builtin; refine wpList_app1 _ 22 .u64 _ rfl _ _ 31 rfl w.heap.size 8 Try.underlying31 Try.infoU64 (by decide) _ (redL p (xs.take i)) rfl rfl G (by have := hlen.out; omega) hb.size ?_; intro v' w' hown hg; refine Hold.mk ?_)
      refine Hold.go ?_
      replace hb : Below w.heap.size w w' := hg.below hb G (Nat.le_refl _) hb.size
      rw [← hst.out] at hown
      clear hg G hst hlen
      go_wp2
      go_roundw
      case rel => exact ⟨i + 1, by omega, by go_num, hown, hb⟩
      case measure => simp [intOf]; omega
    · obtain rfl : i = xs.length := by omega
      rw [List.take_length] at G
      go_wp2
      go_ret
      exact ⟨_, rfl, G, hb⟩

/-! A hash depends on the label and the elements modulo the prime. -/
theorem fadd_mod_r (p a b : Int) : fadd p a (b % p) = fadd p a b := by
  unfold fadd; split <;> simp
theorem fmul_mod_l (p a b : Int) : fmul p (a % p) b = fmul p a b := by
  unfold fmul; split
  · rw [Int.mul_emod, Int.emod_emod_of_dvd _ (Int.dvd_refl p), ← Int.mul_emod]
  · rfl
theorem absL_red (p : Int) : ∀ (xs : List Int) (s : T3), absL p (redL p xs) s = absL p xs s
  | [], _ => rfl
  | [x], s => by simp [redL, absL, fadd_mod_r]
  | x :: y :: r, s => by
    have := absL_red p r (permute p ⟨fadd p s.a x, fadd p s.b y, s.c⟩)
    simp only [redL, List.map_cons, absL, fadd_mod_r] at this ⊢
    exact this
theorem hash_red (p lb : Int) (xs : List Int) : hash p (lb % p) (redL p xs) = hash p lb xs := by
  unfold hash absorb absF absI
  have e : (redL p xs).length = xs.length := by simp [redL]
  have e2 : redL p xs = [] ↔ xs = [] := by simp [redL]
  simp only [e, fmul_mod_l, List.drop_zero, absL_red, e2]

theorem mix_lt {p : Int} (hv : vld p = true) (s : T3) : (mix p s).a < p ∧ (mix p s).b < p ∧ (mix p s).c < p := by
  have hp := vld_pos hv
  have h : ∀ a b, fadd p a b < p := fun a b => by rw [fadd_eq hv]; exact Int.emod_lt_of_pos _ (by omega)
  exact ⟨h _ _, h _ _, h _ _⟩
theorem permute_lt {p : Int} (hv : vld p = true) (s : T3) : (permute p s).a < p ∧ (permute p s).b < p ∧ (permute p s).c < p := by
  unfold permute
  rw [if_pos hv]
  have := permN_succ p 7 s (by decide)
  have e8 : ((7 : Int) + 1).toNat = 8 := rfl
  rw [e8] at this
  rw [this]
  exact mix_lt hv _
theorem absL_lt {p : Int} (hv : vld p = true) : ∀ (xs : List Int) (s : T3), (s.a < p ∧ s.b < p ∧ s.c < p) → (absL p xs s).a < p ∧ (absL p xs s).b < p ∧ (absL p xs s).c < p
  | [], _, h => h
  | [_], _, _ => permute_lt hv _
  | _ :: _ :: r, _, _ => absL_lt hv r _ (permute_lt hv _)
theorem absorb_lt {p : Int} (hv : vld p = true) (lb : Int) (xs : List Int) : (absorb p lb xs).a < p ∧ (absorb p lb xs).b < p ∧ (absorb p lb xs).c < p := by
  unfold absorb absF
  split
  · exact permute_lt hv _
  · have hp := vld_pos hv
    exact absL_lt hv _ _ ⟨by simp [absI]; omega, by simp [absI]; omega, by simp only [absI]; rw [fadd_eq hv]; exact Int.emod_lt_of_pos _ (by omega)⟩
theorem hash_lt {p : Int} (hv : vld p = true) (lb : Int) (xs : List Int) : hash p lb xs < p := by
  unfold hash
  rw [if_pos hv]
  exact (absorb_lt hv lb xs).1

end Go.Proofs.Ytaklpdhhcnnclaa
