/- The sponge: Hash, in the program and in the reference. -/
import Derived.Test.YthkdaoomnfgooaaSpongeR
import Derived.Test.YthkdaoomnfgooaaList
namespace Go.Proofs.Ythkdaoomnfgooaa
open Go.RowKit

def hash (p lb : Int) (xs : List Int) : Int := if vld p then (absorb p lb xs).a else 0

theorem hash_bd (p lb : Int) (xs : List Int) : 0 ≤ hash p lb xs ∧ hash p lb xs < 18446744073709551616 := by
  unfold hash
  split
  · exact (absorb_W3 p lb xs).1
  · exact ⟨Int.le_refl 0, by decide⟩

set_option maxHeartbeats 1000000 in
theorem Hash_any (p lb : Int) (ad : Option Addr) (c : Nat) (xs : List Int) (w : World) (l0 : 0 ≤ lb) (l1 : lb < 18446744073709551616) (hs : Sl w .u64 ad xs) (hw : AllW xs) (hl : xs.length < 1099511627776) :
    Calls Try.prog 58 #[.int .u64 p, .int .u64 lb, .slice ad xs.length c] w fun e w' => e = .returned (.int .u64 (hash p lb xs)) ∧ Below w.heap.size w w' := by
  obtain ⟨R, hR⟩ : ∃ R, R = hash p lb xs := ⟨_, rfl⟩
  rw [← hR]
  go_enter Try.func58, Try.ntmps58
  by_cases hv : vld p = true
  · replace hR := hide (show (absorb p lb xs).a = R by rw [hR, hash, if_pos hv])
    go_wp2_with fail
    refine (valid_any p _).mono ?_
    rintro ew1 w1 ⟨rfl, hb1⟩
    rw [hv]
    go_wp2_with fail
    refine (absorb_any p lb ad c xs _ l0 l1 (hs.mono hb1) hw hl).mono ?_
    rintro e w2 ⟨rfl, hb2⟩
    go_wp2
    go_ret
    exact ⟨ret_int hR.out, below2 hb1 hb2⟩
  · have hv := vld_no hv
    replace hR := hide (show 0 = R by rw [hR, hash, hv]; rfl)
    go_wp2_with fail
    refine (valid_any p _).mono ?_
    rintro ew1 w1 ⟨rfl, hb1⟩
    rw [hv]
    go_wp2
    go_ret
    exact ⟨ret_int hR.out, hb1⟩

set_option maxHeartbeats 1000000 in
theorem rHash_any (p lb : Int) (ad : Option Addr) (c : Nat) (xs : List Int) (w : World) (l0 : 0 ≤ lb) (l1 : lb < 18446744073709551616) (hs : Sl w .u64 ad xs) (hw : AllW xs) (hl : xs.length < 1099511627776) :
    Calls Try.prog 59 #[.int .u64 p, .int .u64 lb, .slice ad xs.length c] w fun e w' => e = .returned (.int .u64 (hash p lb xs)) ∧ Below w.heap.size w w' := by
  obtain ⟨R, hR⟩ : ∃ R, R = hash p lb xs := ⟨_, rfl⟩
  rw [← hR]
  go_enter Try.func59, Try.ntmps59
  by_cases hv : vld p = true
  · replace hR := hide (show (absorb p lb xs).a = R by rw [hR, hash, if_pos hv])
    go_wp2_with fail
    refine (rValid_any p _).mono ?_
    rintro ew1 w1 ⟨rfl, hb1⟩
    rw [hv]
    go_wp2_with fail
    refine (rAbsorb_any p lb ad c xs _ l0 l1 (hs.mono hb1) hw hl).mono ?_
    rintro e w2 ⟨rfl, hb2⟩
    go_wp2
    go_ret
    exact ⟨ret_int hR.out, below2 hb1 hb2⟩
  · have hv := vld_no hv
    replace hR := hide (show 0 = R by rw [hR, hash, hv]; rfl)
    go_wp2_with fail
    refine (rValid_any p _).mono ?_
    rintro ew1 w1 ⟨rfl, hb1⟩
    rw [hv]
    go_wp2
    go_ret
    exact ⟨ret_int hR.out, hb1⟩

end Go.Proofs.Ythkdaoomnfgooaa
