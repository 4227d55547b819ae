/- The cipher: the walks of the program's functions. -/
import Derived.Test.YtaklpdhhcnnclaaCiphM
import Derived.Test.YtaklpdhhcnnclaaAwake8
namespace Go.Proofs.Ytaklpdhhcnnclaa
open Go.RowKit

theorem redB_stop {xs : List Int} {i : Nat} (hi : i < xs.length) (h : ¬ xs.getD i 0 < big) : redB xs = false := by
  rw [Bool.eq_false_iff]
  intro h'
  exact h (redB_get h' hi)

set_option maxHeartbeats 1000000 in
theorem elements_any (key nonce : Int) (ad : Option Addr) (c : Nat) (xs : List Int) (w : World) (hs : Sl w .u64 ad xs) (hl : xs.length < 1099511627776) :
    Calls Try.prog 78 #[.int .u64 key, .int .u64 nonce, .slice ad xs.length c] w fun e w' => e = .returned (.bool (elB key nonce xs)) ∧ Below w.heap.size w w' := by
  by_cases h1 : key < 18446744069414584321
  · have g1 : ¬ 18446744069414584321 ≤ key := by omega
    by_cases h2 : nonce < 18446744069414584321
    · have g2 : ¬ 18446744069414584321 ≤ nonce := by omega
      have hel : elB key nonce xs = redB xs := by
        unfold elB
        rw [decide_eq_true (show key < big from h1), decide_eq_true (show nonce < big from h2)]
        rfl
      rw [hel]
      clear hel
      go_enter Try.func78, Try.ntmps78
      go_wp2_with fail
      go_loop [17] (fun t17 => ∃ i : Nat, i ≤ xs.length ∧ t17 = .int .i64 i ∧ Hid (redB (xs.take i) = true)) (fun t17 => xs.length - (intOf t17).toNat)
      case atStart => exact ⟨0, by omega, rfl, hide rfl⟩
      case round =>
        obtain ⟨i, hi, rfl, hr⟩ := hrel
        by_cases hlt : i < xs.length
        · obtain ⟨b, off, rfl, hbl, hc⟩ := hs.get hlt
          have hstop := redB_stop hlt
          have hst : redB (xs.take (i + 1)) = (redB (xs.take i) && decide (xs.getD i 0 < big)) := by rw [take_succ_getD xs 0 hlt, redB_snoc]
          obtain ⟨x, hx⟩ : ∃ x, x = xs.getD i 0 := ⟨_, rfl⟩
          rw [← hx] at hc hst hstop
          replace hst := hide hst
          replace hstop := hide hstop
          clear hx
          by_cases hxb : x < 18446744069414584321
          · have g3 : ¬ 18446744069414584321 ≤ x := by omega
            go_wp2
            go_round
            case rel => exact ⟨i + 1, by omega, by go_num, hide (by rw [hst.out, hr.out, decide_eq_true (show x < big from hxb)]; rfl)⟩
            case measure => simp [intOf]; omega
          · have g3 : 18446744069414584321 ≤ x := by omega
            go_wp2
            go_ret
            exact ⟨ret_bool (hstop.out hxb).symm, Below.refl _ _⟩
        · obtain rfl : i = xs.length := by omega
          rw [List.take_length] at hr
          go_wp2
          go_ret
          exact ⟨ret_bool hr.out.symm, Below.refl _ _⟩
    · have g2 : 18446744069414584321 ≤ nonce := by omega
      have hel : Hid (elB key nonce xs = false) := hide (by
        unfold elB
        rw [decide_eq_false (show ¬ nonce < big from h2)]
        simp)
      go_enter Try.func78, Try.ntmps78
      go_wp2
      go_ret
      exact ⟨ret_bool hel.out.symm, Below.refl _ _⟩
  · have g1 : 18446744069414584321 ≤ key := by omega
    have hel : Hid (elB key nonce xs = false) := hide (by
      unfold elB
      rw [decide_eq_false (show ¬ key < big from h1)]
      simp)
    go_enter Try.func78, Try.ntmps78
    go_wp2
    go_ret
    exact ⟨ret_bool hel.out.symm, Below.refl _ _⟩

set_option maxHeartbeats 1000000 in
theorem start_any (key nonce : Int) (n : Nat) (w : World) (h0 : 0 ≤ key) (h1 : key < 18446744073709551616) (g0 : 0 ≤ nonce) (g1 : nonce < 18446744073709551616) (hn : n < 1099511627776) :
    Calls Try.prog 79 #[.int .u64 key, .int .u64 nonce, .int .i64 n] w fun e w' => e = .returned (.agg #[.int .u64 (cstart key nonce n).a, .int .u64 (cstart key nonce n).b, .int .u64 (cstart key nonce n).c]) ∧ Below w.heap.size w w' := by
  obtain ⟨q, hq⟩ : ∃ q, q = fadd big 786432 n := ⟨_, rfl⟩
  have hqb := fadd_bd big 786432 n
  rw [← hq] at hqb
  have cA : ∀ W : World, Calls Try.prog 60 #[.agg #[.int .u64 18446744069414584321], .int .u64 786432, .int .u64 n] W fun e w' => e = .returned (.int .u64 q) ∧ Below W.heap.size W w' := fun W => by
    rw [hq]; exact Add_any big 786432 n W (by decide) (by decide) (by omega) (by omega)
  have cP : ∀ W : World, Calls Try.prog 33 #[.int .u64 18446744069414584321, .agg #[.int .u64 key, .int .u64 nonce, .int .u64 q]] W fun e w' => e = .returned (.agg #[.int .u64 (cstart key nonce n).a, .int .u64 (cstart key nonce n).b, .int .u64 (cstart key nonce n).c]) ∧ Below W.heap.size W w' := fun W => by
    have := Permute_any big ⟨key, nonce, q⟩ W ⟨⟨h0, h1⟩, ⟨g0, g1⟩, hqb⟩
    have e : permute big ⟨key, nonce, q⟩ = cstart key nonce n := by rw [hq]; rfl
    rwa [e] at this
  obtain ⟨R, hR⟩ : ∃ R, R = cstart key nonce n := ⟨_, rfl⟩
  rw [← hR] at cP ⊢
  have hcv : IntKind.u64.wrap (n : Int) = n := by rw [IntKind.wrap_u64]; omega
  clear hR hq
  go_enter Try.func79, Try.ntmps79
  go_wp2_with fail
  refine name_calls fun W hW => ?_
  have g2 : Blk W w.heap.size (A3 ⟨0, 0, 0⟩) 26 := by rw [hW]; exact (Blk.newAt rfl).alloc _
  have hB : Below w.heap.size w W := by rw [hW]; exact ((Below.refl _ _).alloc (Nat.le_refl _) _).alloc (by simp) _
  clear hW
  refine (cA W).mono ?_
  rintro e w1 ⟨rfl, hb1⟩
  replace g2 := g2.mono hb1
  replace hB := below2 hB hb1
  clear hb1 cA
  go_wp2_with fail
  refine (cP w1).mono ?_
  rintro e w2 ⟨rfl, hb2⟩
  replace g2 := g2.mono hb2
  replace hB := below2 hB hb2
  clear hb2 cP
  have y0 := g2.cell (j := 0) (v := .int .u64 0) rfl
  have y1 := g2.cell (j := 1) (v := .int .u64 0) rfl
  have y2 := g2.cell (j := 2) (v := .int .u64 0) rfl
  have f := g2.free
  have l2 := g2.lt
  go_wp2
  exact bodyPost_ret (v := .agg #[.int .u64 R.a, .int .u64 R.b, .int .u64 R.c]) (by simp [results, Try.results79, go_sem, y0, y1, y2]) rfl ⟨rfl, below_set3 hB (Nat.le_refl _) _ _ _⟩

/-- The blocks of a round: the field's, the state's, the slice's. -/
structure CSt (pr : Bool) (w wr : World) (bf bs : Nat) (s : T3) (v : Value) (l : List Int) : Prop where
  b : Below w.heap.size w wr
  fld : pr = true → Blk wr bf #[.int .u64 18446744069414584321] 56
  st : Blk wr bs (A3 s) 26
  own : Own wr w.heap.size 22 .u64 v l
  ns : v.ownBlock ≠ some bs
  nf : pr = true → v.ownBlock ≠ some bf
  n : w.heap.size ≤ bs
  df : pr = true → bs ≠ bf

section
variable {pr : Bool} {w wr w2 : World} {bf bs : Nat} {s : T3} {v v' : Value} {l l' : List Int}
theorem CSt.mono (H : CSt pr w wr bf bs s v l) (hb : Below wr.heap.size wr w2) : CSt pr w w2 bf bs s v l :=
  ⟨below2 H.b hb, fun h => (H.fld h).mono hb, H.st.mono hb, H.own.mono hb, H.ns, H.nf, H.n, H.df⟩
theorem CSt.app (H : CSt pr w wr bf bs s v l) (hown : Own w2 w.heap.size 22 .u64 v' l') (hg : Grew wr w2 v v') : CSt pr w w2 bf bs s v' l' :=
  ⟨hg.below H.b H.own (Nat.le_refl _) H.b.size, fun h => hg.blk (H.fld h) (H.nf h), hg.blk H.st H.ns, hown, hg.ne _ H.st.lt H.ns, fun h => hg.ne _ (H.fld h).lt (H.nf h), H.n, H.df⟩
theorem CSt.setA (H : CSt pr w wr bf bs s v l) (x : Int) : CSt pr w (wr.setCell ⟨bs, 0, none⟩ (.int .u64 x)) bf bs ⟨x, s.b, s.c⟩ v l :=
  ⟨H.b.setCell H.n _, fun h => (H.fld h).other (H.df h) _ _, H.st.set 0 _, H.own.other H.ns _, H.ns, H.nf, H.n, H.df⟩
theorem CSt.setB (H : CSt pr w wr bf bs s v l) (x : Int) : CSt pr w (wr.setCell ⟨bs, 1, none⟩ (.int .u64 x)) bf bs ⟨s.a, x, s.c⟩ v l :=
  ⟨H.b.setCell H.n _, fun h => (H.fld h).other (H.df h) _ _, H.st.set 1 _, H.own.other H.ns _, H.ns, H.nf, H.n, H.df⟩
theorem CSt.set3 (H : CSt pr w wr bf bs s v l) (y : T3) : CSt pr w (((wr.setCell ⟨bs, 0, none⟩ (.int .u64 y.a)).setCell ⟨bs, 1, none⟩ (.int .u64 y.b)).setCell ⟨bs, 2, none⟩ (.int .u64 y.c)) bf bs y v l :=
  ⟨below_set3 H.b H.n _ _ _, fun h => (H.fld h).other3 (H.df h) _ _ _, H.st.set3, ((H.own.other H.ns _).other H.ns _).other H.ns _, H.ns, H.nf, H.n, H.df⟩
theorem CSt.out {g n c : Nat} (H : CSt pr w wr bf bs s (.slice (some ⟨g, 0, none⟩) n c) l) (j : Nat) (x : Int) : CSt pr w (wr.setCell ⟨g, j, none⟩ (.int .u64 x)) bf bs s (.slice (some ⟨g, 0, none⟩) n c) (l.set j x) :=
  ⟨H.b.setCell (H.own.lt (b := g) rfl).1 _, fun h => (H.fld h).other (fun e => H.nf h (by simp [Value.ownBlock, e])) _ _, H.st.other (fun e => H.ns (by simp [Value.ownBlock, e])) _ _, H.own.set j x, H.ns, H.nf, H.n, H.df⟩
end

end Go.Proofs.Ytaklpdhhcnnclaa
