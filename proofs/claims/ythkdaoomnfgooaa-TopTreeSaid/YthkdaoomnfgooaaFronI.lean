/- Frontiers: the walk of grown. -/
import Derived.Test.YthkdaoomnfgooaaFronH
namespace Go.Proofs.Ythkdaoomnfgooaa
open Go.RowKit

/-- What grown returns. -/
def RetG (w : World) (d c : Int) (L : List Int) (b : Bool) (e : Ending) (w' : World) : Prop := ∃ v, e = .returned (.tuple #[.agg #[.int .i64 d, .int .i64 c, v], .bool b]) ∧ Own w' w.heap.size 30 .u64 v L ∧ Below w.heap.size w w'

theorem own_ne_blk {w : World} {base : Nat} {E : TypeId} {k : IntKind} {v : Value} {xs : List Int} {b : Nat} {cs : Array Value} {T : TypeId} (h : Own w base E k v xs) (g : Blk w b cs T) (hT : ¬ E = T) : v.ownBlock ≠ some b := fun e => by
  rcases h.form with ⟨rfl, _⟩ | ⟨g', cap, cur, rfl, _, hgb, _⟩
  · cases e
  · injection e with e
    subst e
    have := hgb.symm.trans g
    injection this with this
    injection this with _ this
    exact hT this

theorem newL_nat {n : Nat} (h1 : 1 ≤ n) (h2 : n ≤ 12) : newD n = n ∧ newL n = fro n [] := by
  have e : newOk n = true := by unfold newOk; simp; omega
  refine ⟨by unfold newD; rw [e]; rfl, ?_⟩
  unfold newL
  rw [e, if_pos rfl, fro_nil, Int.toNat_natCast]

set_option maxRecDepth 10000 in
set_option maxHeartbeats 4000000 in
theorem grown_any (n : Nat) (ad : Option Addr) (cap : Nat) (l : List Int) (w : World) (hs : Sl w .u64 ad l) (hw : AllW l) (h1 : 1 ≤ n) (h2 : n ≤ 12) (hl : l.length ≤ 2 ^ n) (hb : ∀ x ∈ l, x < big) :
    Calls Try.prog 35 #[.int .i64 n, .slice ad l.length cap] w (RetG w n l.length (fro n l) true) := by
  have cN := fun W : World => New_any n W
  rw [(newL_nat h1 h2).1, (newL_nat h1 h2).2] at cN
  have hl4 : l.length ≤ 4096 := Nat.le_trans hl (pow_le12 h2).2
  go_enter Try.func35, Try.ntmps35
  go_wp2_with fail
  refine name_calls fun W hW => ?_
  have g0 : Blk W w.heap.size #[.int .i64 0, .int .i64 0, .slice none 0 0] 28 := by rw [hW]; exact Blk.newAt rfl
  have hB : Below w.heap.size w W := by rw [hW]; exact (Below.refl _ _).alloc (Nat.le_refl _) _
  have hz : w.heap.size + 1 ≤ W.heap.size := by rw [hW]; simp
  clear hW
  refine (cN W).mono ?_
  rintro e w1 ⟨v, rfl, o1, hb1⟩
  replace o1 := o1.low hz
  replace g0 := g0.mono hb1
  replace hB := below2 hB hb1
  replace hz := Nat.le_trans hz hb1.size
  obtain ⟨a1, c1, rfl, _, _, _⟩ := Own.sl o1
  clear cN hb1
  go_wp2_with fail
  have gf : Blk (w1.alloc (.cells #[.int .i64 n, .int .i64 0, .slice a1 (fro n []).length c1] 28)) w1.heap.size #[.int .i64 n, .int .i64 0, .slice a1 (fro n []).length c1] 28 := Blk.newAt rfl
  have H0 := g0.alloc (.cells #[.int .i64 n, .int .i64 0, .slice a1 (fro n []).length c1] 28)
  have B0 := hB.alloc hB.size (.cells #[.int .i64 n, .int .i64 0, .slice a1 (fro n []).length c1] 28)
  have O0 := o1.alloc (.cells #[.int .i64 n, .int .i64 0, .slice a1 (fro n []).length c1] 28)
  clear g0 hB o1
  generalize w1.heap.size = b at *
  go_loopw [15] (fun t15 wr => ∃ i : Nat, i ≤ l.length ∧ t15 = .int .i64 i ∧ Below w.heap.size w wr ∧ Blk wr w.heap.size #[.int .i64 0, .int .i64 0, .slice none 0 0] 28 ∧ ∃ a c, Blk wr b #[.int .i64 n, .int .i64 i, .slice a (fro n (l.take i)).length c] 28 ∧ Own wr (w.heap.size + 1) 30 .u64 (.slice a (fro n (l.take i)).length c) (fro n (l.take i))) (fun t15 _ => l.length - (intOf t15).toNat)
  case atStart => exact ⟨0, by omega, rfl, B0, H0, _, _, gf, O0⟩
  case round =>
    clear H0 B0 O0 gf
    obtain ⟨i, hi, rfl, hB, g0, a, c, gf, ho⟩ := hrel
    by_cases hlt : i < l.length
    · obtain ⟨bb, off, rfl, _, hc⟩ := (hs.mono hB).get hlt
      have hyb := hw.get hlt
      have hyB : l.getD i 0 < big := hb _ (getD_mem hlt)
      have hti : (l.take i).length = i := by rw [List.length_take]; omega
      have hap := fro_append (x := l.getD i 0) (l := l.take i) h1 h2 (by rw [hti]; omega) (fun x hx => hb x (List.mem_of_mem_take hx)) hyB
      rw [← take_succ_getD l 0 hlt, hti] at hap
      obtain ⟨q1, q2, q3, q4⟩ := hap
      have cA := fun (ad : Option Addr) (cap : Nat) (W : World) hs => Append_any n i (l.getD i 0) ad cap (fro n (l.take i)) W hyb hs (fro_W n _ fun x hx => hw x (List.mem_of_mem_take hx)) (by rw [fro_len]; omega) (by omega)
      rw [q1, q2, q3, q4] at cA
      obtain ⟨y, hy⟩ : ∃ y, y = l.getD i 0 := ⟨_, rfl⟩
      rw [← hy] at hc cA
      clear q1 q2 q3 q4 hti hyB hyb hy
      obtain ⟨_, _, he, sF, _, _⟩ := Own.sl ho
      injection he with he1 he2 he3
      subst he1
      clear he2 he3
      obtain ⟨F', hF'⟩ : ∃ F', F' = fro n (l.take (i + 1)) := ⟨_, rfl⟩
      rw [← hF'] at cA
      generalize fro n (l.take i) = F at *
      have k0 := gf.cell (j := 0) (v := .int .i64 n) rfl; have k1 := gf.cell (j := 1) (v := .int .i64 i) rfl; have k2 := gf.cell (j := 2) (v := .slice a F.length c) rfl
      replace hF' := hide hF'
      clear hl
      go_wp2_with fail
      refine (cA _ _ _ sF).mono ?_
      rintro e w2 ⟨v, rfl, o2, hb2⟩
      obtain ⟨a2, c2, rfl, _, _, _⟩ := Own.sl o2
      replace o2 := o2.low (show w.heap.size + 1 ≤ wr.heap.size by have := gf.lt; omega)
      replace g0 := g0.mono hb2
      replace gf := gf.mono hb2
      replace hB := below2 hB hb2
      clear cA hb2 k0 k1 k2 hc sF ho
      have gf' := gf.alloc (.cells #[.int .i64 n, .int .i64 (i + 1), .slice a2 F'.length c2] 28)
      have g0' := g0.alloc (.cells #[.int .i64 n, .int .i64 (i + 1), .slice a2 F'.length c2] 28)
      have hB' := hB.alloc hB.size (.cells #[.int .i64 n, .int .i64 (i + 1), .slice a2 F'.length c2] 28)
      have o2' := o2.alloc (.cells #[.int .i64 n, .int .i64 (i + 1), .slice a2 F'.length c2] 28)
      have hn := own_ne_blk o2' gf' (by decide)
      have k0 := gf'.cell (j := 0) (v := .int .i64 n) rfl; have k1 := gf'.cell (j := 1) (v := .int .i64 i) rfl; have k2 := gf'.cell (j := 2) (v := .slice a F.length c) rfl
      have f := gf'.free
      clear g0 gf hB o2
      go_wp2
      go_roundw
      case rel =>
        refine ⟨i + 1, by omega, by go_num, below_set3 hB' (by omega) _ _ _, g0'.other3 (by omega) _ _ _, a2, c2, ?_, ?_⟩
        · rw [← hF'.out]
          exact Blk.set3 gf'
        · rw [← hF'.out]
          exact ((o2'.other hn _).other hn _).other hn _
      case measure => simp [intOf]; omega
    · obtain rfl : i = l.length := by omega
      rw [List.take_length] at gf ho
      have k0 := gf.cell (j := 0) (v := .int .i64 n) rfl; have k1 := gf.cell (j := 1) (v := .int .i64 l.length) rfl; have k2 := gf.cell (j := 2) (v := .slice a (fro n l).length c) rfl
      have y0 := g0.cell (j := 0) (v := .int .i64 0) rfl; have y1 := g0.cell (j := 1) (v := .int .i64 0) rfl; have y2 := g0.cell (j := 2) (v := .slice none 0 0) rfl
      have f := g0.free
      have hn := own_ne_blk ho g0 (by decide)
      go_wp2
      exact bodyPost_ret (v := .tuple #[.agg #[.int .i64 n, .int .i64 l.length, .slice a (fro n l).length c], .bool true]) (by simp [results, Try.results35, go_sem, y0, y1, y2]) rfl ⟨_, rfl, (((ho.other hn _).other hn _).other hn _).low (by omega), below_set3 hB (Nat.le_refl _) _ _ _⟩

end Go.Proofs.Ythkdaoomnfgooaa
