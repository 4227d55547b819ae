/- The cipher: Seal, and the reference. -/
import Derived.Test.YtaklpdhhcnnclaaDecrypt
namespace Go.Proofs.Ytaklpdhhcnnclaa
open Go.RowKit

theorem fadd_comm (p a b : Int) : fadd p a b = fadd p b a := by unfold fadd; rw [Int.add_comm]

set_option maxRecDepth 10000 in
set_option maxHeartbeats 4000000 in
theorem Seal_any (key nonce : Int) (ad : Option Addr) (c : Nat) (xs : List Int) (w : World) (k0 : 0 ≤ key) (k1 : key < 18446744073709551616) (g0 : 0 ≤ nonce) (g1 : nonce < 18446744073709551616) (hs : Sl w .u64 ad xs) (hw : AllW xs) (hl : xs.length < 1099511627770) :
    Calls Try.prog 51 #[.int .u64 key, .int .u64 nonce, .slice ad xs.length c] w (RetSl w 22 .u64 (seal_ key nonce xs)) := by
  have cE := elements_any key nonce ad c xs w hs (by omega)
  by_cases he : elB key nonce xs = true
  · rw [he] at cE
    have cS := fun W : World => start_any key nonce xs.length W k0 k1 g0 g1 (by omega)
    have hW0 := cstart_W3 key nonce xs.length k0 k1 g0 g1
    have e1 : seal_ key nonce xs = cl xs.length true xs (cstart key nonce xs.length) xs.length ++ [(cst xs.length true xs (cstart key nonce xs.length) xs.length).a] := by unfold seal_; rw [if_pos he]; rfl
    rw [e1]
    obtain ⟨s0, hs0⟩ : ∃ s0, s0 = cstart key nonce xs.length := ⟨_, rfl⟩
    rw [← hs0] at cS hW0 ⊢
    obtain ⟨n, hn⟩ : ∃ n, n = xs.length := ⟨_, rfl⟩
    have hcW := cst_W3 n true xs s0 hW0 hw
    have hxn := hn
    rw [← hn] at cE cS hl ⊢
    replace hxn := hide hxn
    replace hcW := hide hcW
    clear hs0 e1 k0 k1 g0 g1 hW0 he hn
    have hmk := fun W => run_mkI (P := Try.prog) (t := 31) (e := 22) (k := .u64) (bytes := 8) Try.underlying31 Try.infoU64 (by decide) (L := 0) (C := (n : Int) + 1) 0 (n + 1) rfl (by omega) (by omega) (by omega) W
    go_enter Try.func51, Try.ntmps51
    go_wp2_with fail
    refine cE.mono ?_
    rintro e w0 ⟨rfl, hb0⟩
    clear cE
    go_wp2_with fail
    refine name_calls fun W hW => ?_
    have gf : Blk W w0.heap.size #[.int .u64 18446744069414584321] 56 := by rw [hW]; exact Blk.newAt rfl
    have hB : Below w.heap.size w W := by rw [hW]; exact hb0.alloc hb0.size _
    have hz := hb0.size
    clear hW
    refine (cS W).mono ?_
    rintro e w1 ⟨rfl, hb1⟩
    replace gf := gf.mono hb1
    replace hB := below2 hB hb1
    clear hb1 cS
    go_wp2_with fail
    refine name_world fun W hW => ?_
    have H0 : CSt true w W w0.heap.size w1.heap.size s0 (.slice (some ⟨w1.heap.size + 1, 0, none⟩) 0 (n + 1)) (cl n true xs s0 0) := by
      have lf := gf.lt
      rw [hW]
      have hk := Blk.new (w1.alloc (.cells #[.int .u64 s0.a, .int .u64 s0.b, .int .u64 s0.c] 26)) (madeCells #[.int .u64 0] (n + 1)) 22
      have := Own.of_blk (base := w.heap.size) (k := .u64) (xs := []) (cap := n + 1) (by have := hB.size; simp; omega) hk (by simp) (by simp only [maxLen]; omega) (by simp [madeCells]) rfl
      exact ⟨(hB.alloc hB.size _).alloc (by have := hB.size; simp; omega) _, fun _ => (gf.alloc _).alloc _, (Blk.newAt rfl).alloc _, by rw [show cl n true xs s0 0 = [] from rfl]; simpa using this, by simp [Value.ownBlock], fun _ => by simp [Value.ownBlock]; omega, hB.size, fun _ => by omega⟩
    clear hW gf hB hmk hz
    generalize w1.heap.size = bs at *
    generalize w0.heap.size = bf at *
    go_loopw [9, 29] (fun t9 t29 wr => ∃ i : Nat, i ≤ n ∧ t29 = .int .i64 i ∧ CSt true w wr bf bs (cst n true xs s0 i) t9 (cl n true xs s0 i)) (fun _ t29 _ => n - (intOf t29).toNat)
    case atStart => exact ⟨0, by omega, rfl, H0⟩
    case round =>
      obtain ⟨i, hi, rfl, G⟩ := hrel
      clear H0
      by_cases hlt : i < n
      · have hlx : i < xs.length := by rw [← hxn.out]; exact hlt
        obtain ⟨b, off, rfl, hbl, hc⟩ := (hs.mono G.b).get hlx
        have hxb := hw.get hlx
        have sW := hcW.out i (by omega)
        have hst : cst n true xs s0 (i + 1) = cnext n true i (cst n true xs s0 i) (xs.getD i 0) := rfl
        have hset := cl_succ n true xs s0 i
        have hy : ce n true xs s0 i = cout true (cst n true xs s0 i) (i % 2) (xs.getD i 0) := rfl
        have hlen : Hid ((cl n true xs s0 i).length = i) := hide (cl_len _ _ _ _ _)
        rw [hy] at hset
        obtain ⟨s, hs'⟩ : ∃ s, s = cst n true xs s0 i := ⟨_, rfl⟩
        obtain ⟨x, hx⟩ : ∃ x, x = xs.getD i 0 := ⟨_, rfl⟩
        rw [← hs'] at G hst hset sW
        rw [← hx] at hc hst hset hxb
        clear hx hs' hy hlx
        obtain ⟨x0, x1⟩ := hxb
        obtain hz | hz | hz : i % 2 = 1 ∨ (i % 2 = 0 ∧ i + 1 = n) ∨ (i % 2 = 0 ∧ ¬ i + 1 = n) := by omega
        · have hm : (i : Int) % 2 = 1 := by omega
          have hmt : (i : Int).tmod 2 = 1 := by rw [Int.tmod_eq_emod_of_nonneg (by omega)]; exact hm
          have hlst : True := trivial
          unfold cnext at hst
          rw [(if_pos (.inl hz)), hz] at hst
          rw [hz] at hset
          obtain ⟨y, hy⟩ : ∃ y, y = cout true s 1 x := ⟨_, rfl⟩
          have hyb := cout_bd true s 1 x
          have hcc : ccip true s 1 x = y := hy.symm
          rw [hcc] at hst
          rw [← hy] at hset hyb
          have sk := getk_bd sW 1
          have cU : ∀ W : World, Calls Try.prog 60 #[.agg #[.int .u64 18446744069414584321], .int .u64 s.b, .int .u64 x] W fun e w' => e = .returned (.int .u64 y) ∧ Below W.heap.size W w' := fun W => by
            rw [hy, show cout true s 1 x = fadd big s.b x from fadd_comm big x s.b]; exact Add_any big s.b x W sk.1 sk.2 x0 x1
          have sW' : W3 (⟨s.a, y, s.c⟩ : T3) := setk_W3 sW 1 hyb
          have hsk : setk s 1 y = ⟨s.a, y, s.c⟩ := rfl
          rw [hsk] at hst
          obtain ⟨s', hs'⟩ : ∃ s', s' = (⟨s.a, y, s.c⟩ : T3) := ⟨_, rfl⟩
          have cP : ∀ W : World, Calls Try.prog 33 #[.int .u64 18446744069414584321, .agg #[.int .u64 s'.a, .int .u64 s'.b, .int .u64 s'.c]] W fun e w' => e = .returned (.agg #[.int .u64 (permute big s').a, .int .u64 (permute big s').b, .int .u64 (permute big s').c]) ∧ Below W.heap.size W w' := fun W => Permute_any big s' W (by rw [hs']; exact sW')
          rw [← hs'] at hst
          obtain ⟨q, hq⟩ : ∃ q, q = permute big s' := ⟨_, rfl⟩
          rw [← hq] at cP
          try rw [← hq] at hst
          rw [hs'] at cP
          replace hst := hide hst
          replace hset := hide hset
          replace hs' := hide hs'
          clear hq hy sW sk sW' hsk hcc
          replace hz := hide hz
          go_wp2_with fail
          have k1 := cell_later' ((G.fld rfl).cell (j := 0) (v := .int .u64 18446744069414584321) rfl)
          have k2 := cell_later' (G.st.cell (j := 1) (v := .int .u64 s.b) rfl)
          refine Rel.wp_region_later_tail 10 Try.mixed (by kernel_rfl) ?_
          simp only [List.take_succ_cons, List.take_zero, List.drop_succ_cons, List.drop_zero]
          repeat (first | go_big_quiet_step (first | (go_at_call 60; exact Calls.later_of (cU _))) | quiet_step (first | (go_at_call 60; exact Calls.later_of (cU _))))
          refine wpQuiet_nil ?_
          intro w3 hb3
          replace hb3 := below_of_later hb3
          replace G := G.mono hb3
          have c0 := G.st.cell (j := 0) (v := .int .u64 s.a) rfl; have c1 := G.st.cell (j := 1) (v := .int .u64 s.b) rfl; have c2 := G.st.cell (j := 2) (v := .int .u64 s.c) rfl
          have fs := G.st.free
          have G4 := G.setB y
          clear k1 k2 hb3 G cU
          go_wp2_with (at_builtin; refine wpList_appZ _ 22 .u64 _ rfl _ _ 31 rfl w.heap.size 8 Try.underlying31 Try.infoU64 (by decide) _ (cl n true xs s0 i) _ rfl rfl (by simp) G4.own (by have := hlen.out; omega) G4.b.size ?_; intro v' w' hown hg; refine Hold.mk ?_)
          refine Hold.go ?_
          have G5 := G4.app hown hg
          rw [← hset.out] at G5
          clear c0 c1 c2 fs hown hg G4 hset hlen
          rw [← hs'.out] at G5
          have c0 := G5.st.cell (j := 0) (v := .int .u64 s'.a) rfl; have c1 := G5.st.cell (j := 1) (v := .int .u64 s'.b) rfl; have c2 := G5.st.cell (j := 2) (v := .int .u64 s'.c) rfl
          rw [hs'.out] at c0 c1 c2
          go_wp2_with fail
          refine name_calls fun W4 hW4 => ?_
          subst hW4
          clear c0 c1 c2
          refine (cP _).mono ?_
          rintro e w5 ⟨rfl, hb5⟩
          replace G5 := G5.mono hb5
          clear hb5 cP
          have c0 := G5.st.cell (j := 0) (v := .int .u64 s'.a) rfl; have c1 := G5.st.cell (j := 1) (v := .int .u64 s'.b) rfl; have c2 := G5.st.cell (j := 2) (v := .int .u64 s'.c) rfl
          have fs := G5.st.free
          replace G5 := G5.set3 q
          go_wp2
          go_roundw
          case rel => exact ⟨i + 1, by omega, by go_num, by rw [hst.out]; exact G5⟩
          case measure => simp [intOf]; omega
        · have hm : (i : Int) % 2 = 0 := by omega
          have hmt : (i : Int).tmod 2 = 0 := by rw [Int.tmod_eq_emod_of_nonneg (by omega)]; exact hm
          have hlst : ((i : Int) == (n : Int) - 1) = true := (by simp; omega)
          unfold cnext at hst
          rw [(if_pos (.inr hz.2)), hz.1] at hst
          rw [hz.1] at hset
          obtain ⟨y, hy⟩ : ∃ y, y = cout true s 0 x := ⟨_, rfl⟩
          have hyb := cout_bd true s 0 x
          have hcc : ccip true s 0 x = y := hy.symm
          rw [hcc] at hst
          rw [← hy] at hset hyb
          have sk := getk_bd sW 0
          have cU : ∀ W : World, Calls Try.prog 60 #[.agg #[.int .u64 18446744069414584321], .int .u64 s.a, .int .u64 x] W fun e w' => e = .returned (.int .u64 y) ∧ Below W.heap.size W w' := fun W => by
            rw [hy, show cout true s 0 x = fadd big s.a x from fadd_comm big x s.a]; exact Add_any big s.a x W sk.1 sk.2 x0 x1
          have sW' : W3 (⟨y, s.b, s.c⟩ : T3) := setk_W3 sW 0 hyb
          have hsk : setk s 0 y = ⟨y, s.b, s.c⟩ := rfl
          rw [hsk] at hst
          obtain ⟨s', hs'⟩ : ∃ s', s' = (⟨y, s.b, s.c⟩ : T3) := ⟨_, rfl⟩
          have cP : ∀ W : World, Calls Try.prog 33 #[.int .u64 18446744069414584321, .agg #[.int .u64 s'.a, .int .u64 s'.b, .int .u64 s'.c]] W fun e w' => e = .returned (.agg #[.int .u64 (permute big s').a, .int .u64 (permute big s').b, .int .u64 (permute big s').c]) ∧ Below W.heap.size W w' := fun W => Permute_any big s' W (by rw [hs']; exact sW')
          rw [← hs'] at hst
          obtain ⟨q, hq⟩ : ∃ q, q = permute big s' := ⟨_, rfl⟩
          rw [← hq] at cP
          try rw [← hq] at hst
          rw [hs'] at cP
          replace hst := hide hst
          replace hset := hide hset
          replace hs' := hide hs'
          clear hq hy sW sk sW' hsk hcc
          replace hz := hide hz
          go_wp2_with fail
          have k1 := cell_later' ((G.fld rfl).cell (j := 0) (v := .int .u64 18446744069414584321) rfl)
          have k2 := cell_later' (G.st.cell (j := 0) (v := .int .u64 s.a) rfl)
          refine Rel.wp_region_later_tail 10 Try.mixed (by kernel_rfl) ?_
          simp only [List.take_succ_cons, List.take_zero, List.drop_succ_cons, List.drop_zero]
          repeat (first | go_big_quiet_step (first | (go_at_call 60; exact Calls.later_of (cU _))) | quiet_step (first | (go_at_call 60; exact Calls.later_of (cU _))))
          refine wpQuiet_nil ?_
          intro w3 hb3
          replace hb3 := below_of_later hb3
          replace G := G.mono hb3
          have c0 := G.st.cell (j := 0) (v := .int .u64 s.a) rfl; have c1 := G.st.cell (j := 1) (v := .int .u64 s.b) rfl; have c2 := G.st.cell (j := 2) (v := .int .u64 s.c) rfl
          have fs := G.st.free
          have G4 := G.setA y
          clear k1 k2 hb3 G cU
          go_wp2_with (at_builtin; refine wpList_appZ _ 22 .u64 _ rfl _ _ 31 rfl w.heap.size 8 Try.underlying31 Try.infoU64 (by decide) _ (cl n true xs s0 i) _ rfl rfl (by simp) G4.own (by have := hlen.out; omega) G4.b.size ?_; intro v' w' hown hg; refine Hold.mk ?_)
          refine Hold.go ?_
          have G5 := G4.app hown hg
          rw [← hset.out] at G5
          clear c0 c1 c2 fs hown hg G4 hset hlen
          rw [← hs'.out] at G5
          have c0 := G5.st.cell (j := 0) (v := .int .u64 s'.a) rfl; have c1 := G5.st.cell (j := 1) (v := .int .u64 s'.b) rfl; have c2 := G5.st.cell (j := 2) (v := .int .u64 s'.c) rfl
          rw [hs'.out] at c0 c1 c2
          go_wp2_with fail
          refine name_calls fun W4 hW4 => ?_
          subst hW4
          clear c0 c1 c2
          refine (cP _).mono ?_
          rintro e w5 ⟨rfl, hb5⟩
          replace G5 := G5.mono hb5
          clear hb5 cP
          have c0 := G5.st.cell (j := 0) (v := .int .u64 s'.a) rfl; have c1 := G5.st.cell (j := 1) (v := .int .u64 s'.b) rfl; have c2 := G5.st.cell (j := 2) (v := .int .u64 s'.c) rfl
          have fs := G5.st.free
          replace G5 := G5.set3 q
          go_wp2
          go_roundw
          case rel => exact ⟨i + 1, by omega, by go_num, by rw [hst.out]; exact G5⟩
          case measure => simp [intOf]; omega
        · have hm : (i : Int) % 2 = 0 := by omega
          have hmt : (i : Int).tmod 2 = 0 := by rw [Int.tmod_eq_emod_of_nonneg (by omega)]; exact hm
          have hlst : ((i : Int) == (n : Int) - 1) = false := (by simp; omega)
          unfold cnext at hst
          rw [(if_neg (by omega)), hz.1] at hst
          rw [hz.1] at hset
          obtain ⟨y, hy⟩ : ∃ y, y = cout true s 0 x := ⟨_, rfl⟩
          have hyb := cout_bd true s 0 x
          have hcc : ccip true s 0 x = y := hy.symm
          rw [hcc] at hst
          rw [← hy] at hset hyb
          have sk := getk_bd sW 0
          have cU : ∀ W : World, Calls Try.prog 60 #[.agg #[.int .u64 18446744069414584321], .int .u64 s.a, .int .u64 x] W fun e w' => e = .returned (.int .u64 y) ∧ Below W.heap.size W w' := fun W => by
            rw [hy, show cout true s 0 x = fadd big s.a x from fadd_comm big x s.a]; exact Add_any big s.a x W sk.1 sk.2 x0 x1
          have sW' : W3 (⟨y, s.b, s.c⟩ : T3) := setk_W3 sW 0 hyb
          have hsk : setk s 0 y = ⟨y, s.b, s.c⟩ := rfl
          rw [hsk] at hst
          obtain ⟨s', hs'⟩ : ∃ s', s' = (⟨y, s.b, s.c⟩ : T3) := ⟨_, rfl⟩
          have cP : ∀ W : World, Calls Try.prog 33 #[.int .u64 18446744069414584321, .agg #[.int .u64 s'.a, .int .u64 s'.b, .int .u64 s'.c]] W fun e w' => e = .returned (.agg #[.int .u64 (permute big s').a, .int .u64 (permute big s').b, .int .u64 (permute big s').c]) ∧ Below W.heap.size W w' := fun W => Permute_any big s' W (by rw [hs']; exact sW')
          rw [← hs'] at hst
          obtain ⟨q, hq⟩ : ∃ q, q = permute big s' := ⟨_, rfl⟩
          rw [← hq] at cP
          try rw [← hq] at hst
          rw [hs'] at cP
          replace hst := hide hst
          replace hset := hide hset
          replace hs' := hide hs'
          clear hq hy sW sk sW' hsk hcc
          replace hz := hide hz
          go_wp2_with fail
          have k1 := cell_later' ((G.fld rfl).cell (j := 0) (v := .int .u64 18446744069414584321) rfl)
          have k2 := cell_later' (G.st.cell (j := 0) (v := .int .u64 s.a) rfl)
          refine Rel.wp_region_later_tail 10 Try.mixed (by kernel_rfl) ?_
          simp only [List.take_succ_cons, List.take_zero, List.drop_succ_cons, List.drop_zero]
          repeat (first | go_big_quiet_step (first | (go_at_call 60; exact Calls.later_of (cU _))) | quiet_step (first | (go_at_call 60; exact Calls.later_of (cU _))))
          refine wpQuiet_nil ?_
          intro w3 hb3
          replace hb3 := below_of_later hb3
          replace G := G.mono hb3
          have c0 := G.st.cell (j := 0) (v := .int .u64 s.a) rfl; have c1 := G.st.cell (j := 1) (v := .int .u64 s.b) rfl; have c2 := G.st.cell (j := 2) (v := .int .u64 s.c) rfl
          have fs := G.st.free
          have G4 := G.setA y
          clear k1 k2 hb3 G cU
          go_wp2_with (at_builtin; refine wpList_appZ _ 22 .u64 _ rfl _ _ 31 rfl w.heap.size 8 Try.underlying31 Try.infoU64 (by decide) _ (cl n true xs s0 i) _ rfl rfl (by simp) G4.own (by have := hlen.out; omega) G4.b.size ?_; intro v' w' hown hg; refine Hold.mk ?_)
          refine Hold.go ?_
          have G5 := G4.app hown hg
          rw [← hset.out] at G5
          clear c0 c1 c2 fs hown hg G4 hset hlen
          rw [← hs'.out] at G5
          have c0 := G5.st.cell (j := 0) (v := .int .u64 s'.a) rfl; have c1 := G5.st.cell (j := 1) (v := .int .u64 s'.b) rfl; have c2 := G5.st.cell (j := 2) (v := .int .u64 s'.c) rfl
          rw [hs'.out] at c0 c1 c2
          rw [← hst.out] at G5
          clear c0 c1 c2
          go_wp2
          go_roundw
          case rel => exact ⟨i + 1, by omega, by go_num, G5⟩
          case measure => simp [intOf]; omega
      · obtain rfl : i = n := by omega
        have c0 := G.st.cell (j := 0) (v := .int .u64 (cst i true xs s0 i).a) rfl
        have hlen : Hid ((cl i true xs s0 i).length = i) := hide (cl_len _ _ _ _ _)
        go_wp2_with (at_builtin; refine wpList_appZ _ 22 .u64 _ rfl _ _ 31 rfl w.heap.size 8 Try.underlying31 Try.infoU64 (by decide) _ (cl i true xs s0 i) _ rfl rfl (by simp) G.own (by have := hlen.out; omega) G.b.size ?_; intro v' w' hown hg; refine Hold.mk ?_)
        refine Hold.go ?_
        have G5 := G.app hown hg
        clear c0 G hg
        go_wp2
        go_ret
        exact ⟨_, rfl, hown, G5.b⟩
  · replace he : elB key nonce xs = false := by simpa using he
    rw [he] at cE
    have ho : seal_ key nonce xs = [] := by unfold seal_; rw [he]; rfl
    rw [ho]
    clear ho k1 g1 he
    go_enter Try.func51, Try.ntmps51
    go_wp2_with fail
    refine cE.mono ?_
    rintro e w1 ⟨rfl, hb1⟩
    clear cE
    go_wp2
    go_ret
    exact ⟨_, rfl, Own.nil _ _ _ _, hb1⟩

end Go.Proofs.Ytaklpdhhcnnclaa
