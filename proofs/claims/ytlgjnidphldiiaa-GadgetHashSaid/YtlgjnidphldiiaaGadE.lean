/- Gadgets: Add, Sub, Scale of the program. -/
import Derived.Test.YtlgjnidphldiiaaGadD
namespace Go.Proofs.Ytlgjnidphldiiaa
open Go.RowKit

theorem combine_any (p n : Int) (x y : Lc) (w : World) (hx : LcOk w x) (hy : LcOk w y) (hl : vld p = true → x.l.length + y.l.length ≤ 100000000) (hn : 0 ≤ n ∧ n < 18446744073709551616) :
    Calls Try.prog 76 #[.int .u64 p, .slice x.ad x.l.length x.cap, .slice y.ad y.l.length y.cap, .int .u64 n] w (RetLn w (addP p x.l y.l n)) := by
  unfold addP
  cases hv : vld p with
  | true => rw [if_pos rfl]; exact combine_yes p n x y w hv hx hy (hl hv) hn
  | false => rw [if_neg (by decide)]; exact combine_no p n x y w hv

set_option maxHeartbeats 1000000 in
theorem gAdd_any (p : Int) (x y : Lc) (w : World) (hx : LcOk w x) (hy : LcOk w y) (hl : vld p = true → x.l.length + y.l.length ≤ 100000000) :
    Calls Try.prog 26 #[.int .u64 p, .slice x.ad x.l.length x.cap, .slice y.ad y.l.length y.cap] w (RetLn w (addP p x.l y.l 1)) := by
  have cT := combine_any p 1 x y w hx hy hl (by decide)
  generalize addP p x.l y.l 1 = L at *
  go_enter Try.func26, Try.ntmps26
  go_wp2_with fail
  refine cT.mono ?_
  rintro e w1 ⟨s, rfl, hs, hl, hb⟩
  go_wp2
  go_ret
  exact ⟨s, rfl, hs, hl, hb⟩

set_option maxHeartbeats 1000000 in
theorem gSub_any (p : Int) (x y : Lc) (w : World) (hx : LcOk w x) (hy : LcOk w y) (hl : vld p = true → x.l.length + y.l.length ≤ 100000000) :
    Calls Try.prog 28 #[.int .u64 p, .slice x.ad x.l.length x.cap, .slice y.ad y.l.length y.cap] w (RetLn w (addP p x.l y.l (fneg p 1))) := by
  have cN := fun W => Neg_any p 1 W (by decide) (by decide)
  have hm := fneg_bd p 1
  generalize fneg p 1 = m at *
  have cT := fun W h1 h2 => combine_any p m x y W h1 h2 hl hm
  generalize addP p x.l y.l m = L at *
  go_enter Try.func28, Try.ntmps28
  go_wp2_with fail
  refine (cN _).mono ?_
  rintro e w1 ⟨rfl, hb1⟩
  go_wp2_with fail
  refine (cT w1 (hx.mono hb1) (hy.mono hb1)).mono ?_
  rintro e w2 ⟨s, rfl, hs, hl, hb⟩
  go_wp2
  go_ret
  exact ⟨s, rfl, hs, hl, below2 hb1 hb⟩

set_option maxHeartbeats 1000000 in
theorem gScale_any (p n : Int) (x : Lc) (w : World) (hx : LcOk w x) (hl : vld p = true → x.l.length ≤ 100000000) (hn : 0 ≤ n ∧ n < 18446744073709551616) :
    Calls Try.prog 30 #[.int .u64 p, .slice x.ad x.l.length x.cap, .int .u64 n] w (RetLn w (addP p [] x.l n)) := by
  have cT := combine_any p n ⟨none, 0, []⟩ x w (LinT.nil w).ok hx (by simpa using hl) hn
  simp only [List.length_nil] at cT
  generalize addP p [] x.l n = L at *
  go_enter Try.func30, Try.ntmps30
  go_wp2_with fail
  refine cT.mono ?_
  rintro e w1 ⟨s, rfl, hs, hl, hb⟩
  go_wp2
  go_ret
  exact ⟨s, rfl, hs, hl, hb⟩

theorem fneg_one {p : Int} (hv : vld p = true) : fneg p 1 = p - 1 := by
  have hp := vld_pos hv
  unfold fneg
  rw [if_pos hv]
  rw [show -(1 : Int) = (p - 1) + p * (-1) by omega, Int.add_mul_emod_self_left, Int.emod_eq_of_lt (by omega) (by omega)]
end Go.Proofs.Ytlgjnidphldiiaa
