/- The cipher: the reference's walks. -/
import Derived.Test.YtaklpdhhcnnclaaSeal
namespace Go.Proofs.Ytaklpdhhcnnclaa
open Go.RowKit

/-- A new slice of one element. -/
def NewS (n : Nat) (y : Int) (E : TypeId) (v : Value) (w : World) : Prop := ∃ b, v = .slice (some ⟨b, 0, none⟩) 1 1 ∧ n ≤ b ∧ Blk w b #[.int .u64 y] E
theorem NewS.keep {n : Nat} {y : Int} {E : TypeId} {v : Value} {w w' : World} (h : NewS n y E v w) (hb : Below w.heap.size w w') : NewS n y E v w' := by
  obtain ⟨b, h1, h2, h3⟩ := h
  exact ⟨b, h1, h2, h3.mono hb⟩
theorem rUpon_news {P : Program} (W : World) (p : Later) (y : Int) (E : TypeId) :
    Rel.rUpon P (later W p) false (NewS W.heap.size y E) (.ok (.value (.slice (some ⟨(later W p).heap.size, 0, none⟩) 1 1)) ((later W p).alloc (.cells #[.int .u64 y] E))) :=
  ⟨(Below.refl _ _).alloc (Nat.le_refl _) _, ⟨_, rfl, (below_later W p).size, Blk.new _ _ _⟩, fun h => by cases h⟩

set_option maxHeartbeats 1000000 in
theorem rReduced9_any (ad : Option Addr) (c : Nat) (xs : List Int) (w : World) (hs : Sl w .u64 ad xs) (hl : xs.length < 1099511627776) :
    Calls Try.prog 56 #[.slice ad xs.length c] w fun e w' => e = .returned (.bool (redB xs)) ∧ Below w.heap.size w w' := by
  go_enter Try.func56, Try.ntmps56
  go_wp2_with fail
  go_loop [3] (fun t3 => ∃ i : Nat, i ≤ xs.length ∧ t3 = .int .i64 i ∧ Hid (redB (xs.take i) = true)) (fun t3 => xs.length - (intOf t3).toNat)
  case atStart => exact ⟨0, by omega, rfl, hide rfl⟩
  case round =>
    obtain ⟨i, hi, rfl, hr⟩ := hrel
    by_cases hlt : i < xs.length
    · obtain ⟨b, off, rfl, hbl, hc⟩ := hs.get hlt
      have hstop := redB_stop hlt
      have hst : redB (xs.take (i + 1)) = (redB (xs.take i) && decide (xs.getD i 0 < big)) := by rw [take_succ_getD xs 0 hlt, redB_snoc]
      obtain ⟨x, hx⟩ : ∃ x, x = xs.getD i 0 := ⟨_, rfl⟩
      rw [← hx] at hc hst hstop
      replace hst := hide hst
      replace hstop := hide hstop
      clear hx
      by_cases hxb : x < 18446744069414584321
      · have g3 : ¬ 18446744069414584321 ≤ x := by omega
        go_wp2
        go_round
        case rel => exact ⟨i + 1, by omega, by go_num, hide (by rw [hst.out, hr.out, decide_eq_true (show x < big from hxb)]; rfl)⟩
        case measure => simp [intOf]; omega
      · have g3 : 18446744069414584321 ≤ x := by omega
        go_wp2
        go_ret
        exact ⟨ret_bool (hstop.out hxb).symm, Below.refl _ _⟩
    · obtain rfl : i = xs.length := by omega
      rw [List.take_length] at hr
      go_wp2
      go_ret
      exact ⟨ret_bool hr.out.symm, Below.refl _ _⟩

theorem cstart_plain (key nonce : Int) (n : Nat) (hn : n < 1099511627776) : permute big ⟨key, nonce, 786432 + n⟩ = cstart key nonce n := by
  unfold cstart
  rw [fadd_big, Int.emod_eq_of_lt (by omega) (by unfold big; omega)]

set_option maxRecDepth 10000 in
set_option maxHeartbeats 4000000 in
theorem rRun_true (key nonce : Int) (ad : Option Addr) (c : Nat) (xs : List Int) (w : World) (k0 : 0 ≤ key) (k1 : key < 18446744073709551616) (g0 : 0 ≤ nonce) (g1 : nonce < 18446744073709551616) (hs : Sl w .u64 ad xs) (hw : AllW xs) (hl : xs.length < 1099511627770) :
    Calls Try.prog 80 #[.int .u64 key, .int .u64 nonce, .slice ad xs.length c, .bool true] w (RetDec w (cOut true key nonce xs) (cTag true key nonce xs)) := by
  have hW0 := cstart_W3 key nonce xs.length k0 k1 g0 g1
  have cS : ∀ W : World, Calls Try.prog 34 #[.int .u64 18446744069414584321, .agg #[.int .u64 key, .int .u64 nonce, .int .u64 (786432 + (xs.length : Int))]] W fun e w' => e = .returned (.agg #[.int .u64 (cstart key nonce xs.length).a, .int .u64 (cstart key nonce xs.length).b, .int .u64 (cstart key nonce xs.length).c]) ∧ Below W.heap.size W w' := fun W => by
    have := rPermute_any big ⟨key, nonce, 786432 + (xs.length : Int)⟩ W ⟨⟨k0, k1⟩, ⟨g0, g1⟩, by simp only []; omega, by simp only []; omega⟩
    rwa [cstart_plain _ _ _ (by omega)] at this
  have e1 : cOut true key nonce xs = cl xs.length true xs (cstart key nonce xs.length) xs.length := rfl
  have e2 : cTag true key nonce xs = (cst xs.length true xs (cstart key nonce xs.length) xs.length).a := rfl
  rw [e1, e2]
  obtain ⟨s0, hs0⟩ : ∃ s0, s0 = cstart key nonce xs.length := ⟨_, rfl⟩
  rw [← hs0] at cS hW0 ⊢
  obtain ⟨n, hn⟩ : ∃ n, n = xs.length := ⟨_, rfl⟩
  have hcW := cst_W3 n true xs s0 hW0 hw
  have hxn := hn
  rw [← hn] at cS hl ⊢
  replace hxn := hide hxn
  replace hcW := hide hcW
  have hcv : IntKind.u64.wrap (n : Int) = n := by rw [IntKind.wrap_u64]; omega
  clear hs0 e1 e2 k0 k1 g0 g1 hW0 hn
  go_enter Try.func80, Try.ntmps80
  go_wp2_with fail
  refine name_calls fun W hW => ?_
  have hB : Below w.heap.size w W := by rw [hW]; exact (Below.refl _ _).alloc (Nat.le_refl _) _
  have gO : Own W w.heap.size 22 .u64 (.slice (some ⟨w.heap.size, 0, none⟩) 0 0) [] := by rw [hW]; exact Own.empty (Nat.le_refl _)
  have lO : w.heap.size < W.heap.size := by rw [hW]; simp
  clear hW
  refine (cS W).mono ?_
  rintro e w1 ⟨rfl, hb1⟩
  replace lO := Nat.lt_of_lt_of_le lO hb1.size
  replace gO := gO.mono hb1
  replace hB := below2 hB hb1
  have H0 : CSt false w (w1.alloc (.cells #[.int .u64 s0.a, .int .u64 s0.b, .int .u64 s0.c] 26)) 0 w1.heap.size s0 (.slice (some ⟨w.heap.size, 0, none⟩) 0 0) (cl n true xs s0 0) :=
    ⟨hB.alloc hB.size _, fun h => (by cases h), Blk.newAt rfl, gO.alloc _, by simp [Value.ownBlock]; omega, fun h => (by cases h), hB.size, fun h => (by cases h)⟩
  clear hb1 cS gO hB lO hcv
  go_wp2_with fail
  generalize w1.heap.size = bs at *
  go_loopw [10, 12] (fun t10 t12 wr => ∃ i : Nat, i ≤ n ∧ t12 = .int .i64 i ∧ CSt false w wr 0 bs (cst n true xs s0 i) t10 (cl n true xs s0 i)) (fun _ t12 _ => n - (intOf t12).toNat)
  case atStart => exact ⟨0, by omega, rfl, H0⟩
  case round =>
    obtain ⟨i, hi, rfl, G⟩ := hrel
    clear H0
    by_cases hlt : i < n
    · have hlx : i < xs.length := by rw [← hxn.out]; exact hlt
      obtain ⟨b, off, rfl, hbl, hc⟩ := (hs.mono G.b).get hlx
      have hxb := hw.get hlx
      have sW := hcW.out i (by omega)
      have hst : cst n true xs s0 (i + 1) = cnext n true i (cst n true xs s0 i) (xs.getD i 0) := rfl
      have hset := cl_succ n true xs s0 i
      have hy : ce n true xs s0 i = cout true (cst n true xs s0 i) (i % 2) (xs.getD i 0) := rfl
      have hlen : Hid ((cl n true xs s0 i).length = i) := hide (cl_len _ _ _ _ _)
      have hlen1 : Hid ((cl n true xs s0 (i + 1)).length = i + 1) := hide (cl_len _ _ _ _ _)
      have hgt : (cl n true xs s0 (i + 1)).getD i 0 = ce n true xs s0 i := cl_get _ _ _ _ (Nat.lt_succ_self i)
      rw [hy] at hset hgt
      obtain ⟨s, hs'⟩ : ∃ s, s = cst n true xs s0 i := ⟨_, rfl⟩
      obtain ⟨x, hx⟩ : ∃ x, x = xs.getD i 0 := ⟨_, rfl⟩
      rw [← hs'] at G hst hset sW hgt
      rw [← hx] at hc hst hset hxb hgt
      clear hx hs' hy hlx
      obtain ⟨x0, x1⟩ := hxb
      obtain hz | hz | hz : i % 2 = 1 ∨ (i % 2 = 0 ∧ i + 1 = n) ∨ (i % 2 = 0 ∧ ¬ i + 1 = n) := by omega
      · have hm : (i : Int) % 2 = 1 := by omega
        have hmt : (i : Int).tmod 2 = 1 := by rw [Int.tmod_eq_emod_of_nonneg (by omega)]; exact hm
        have hlst : True := trivial
        unfold cnext at hst
        rw [(if_pos (.inl hz)), hz] at hst
        rw [hz] at hset hgt
        obtain ⟨y, hy⟩ : ∃ y, y = cout true s 1 x := ⟨_, rfl⟩
        have hyb := cout_bd true s 1 x
        have hcc : ccip true s 1 x = y := hy.symm
        rw [hcc] at hst
        rw [← hy] at hset hyb hgt
        have sk := getk_bd sW 1
        have cU : ∀ W : World, Calls Try.prog 28 #[.int .u64 18446744069414584321, .int .u64 x, .int .u64 s.b] W fun e w' => e = .returned (.int .u64 y) ∧ Below W.heap.size W w' := fun W => by
          rw [hy]; exact rAdd_any big x s.b W x0 x1 sk.1 sk.2
        have sW' : W3 (⟨s.a, y, s.c⟩ : T3) := setk_W3 sW 1 hyb
        have hsk : setk s 1 y = ⟨s.a, y, s.c⟩ := rfl
        rw [hsk] at hst
        obtain ⟨s', hs'⟩ : ∃ s', s' = (⟨s.a, y, s.c⟩ : T3) := ⟨_, rfl⟩
        have cP : ∀ W : World, Calls Try.prog 34 #[.int .u64 18446744069414584321, .agg #[.int .u64 s'.a, .int .u64 s'.b, .int .u64 s'.c]] W fun e w' => e = .returned (.agg #[.int .u64 (permute big s').a, .int .u64 (permute big s').b, .int .u64 (permute big s').c]) ∧ Below W.heap.size W w' := fun W => rPermute_any big s' W (by rw [hs']; exact sW')
        rw [← hs'] at hst
        obtain ⟨q, hq⟩ : ∃ q, q = permute big s' := ⟨_, rfl⟩
        rw [← hq] at cP
        try rw [← hq] at hst
        rw [hs'] at cP
        replace hst := hide hst
        replace hset := hide hset
        replace hs' := hide hs'
        replace hgt := hide hgt
        clear hq hy sW sk sW' hsk hcc
        replace hz := hide hz
        go_wp2_with fail
        have k1 := cell_later' hc
        have k2 := cell_later' (G.st.cell (j := 1) (v := .int .u64 s.b) rfl)
        refine Rel.wp_region_mix 10 [] [(9, NewS wr.heap.size y 22)] Try.mixed (by kernel_rfl) (by kernel_rfl) ?_ ?_
        rotate_left
        simp only [List.take_succ_cons, List.take_zero, List.drop_succ_cons, List.drop_zero, List.map_cons, List.map_nil]
        repeat (first | (refine Rel.wpA_b (by rfl) ?_) | (refine Rel.wpA_step (by rfl) fun K hK => ?_; go_simp; first | (refine hK _ ?_; clear hK K) | (apply Exists.intro; refine ⟨fun _ => ?_, hK _ ?_⟩; (first | (go_at_call 28; exact cU _)); clear hK K)))
        refine Rel.wpA_nil ?_
        rotate_left
        · intro z hz v u u' h1 h2
          simp only [List.mem_cons, List.not_mem_nil, or_false] at hz
          subst hz
          exact NewS.keep h1 h2
        refine Rel.wpB_step _ rfl rfl (fun p' hc => ?_) (fun v9 => ?_)
        · go_simp
          exact rUpon_news _ _ _ _
        refine Rel.wpB_nil ?_
        intro p' hctx hfr
        simp only [List.nil_append, List.mem_cons, List.not_mem_nil, or_false, forall_eq] at hctx
        obtain ⟨bn, rfl, n9, g9⟩ := hctx
        have hb3 : Below wr.heap.size wr (later wr p') := below_later _ _
        replace G := G.mono hb3
        clear hfr k1 k2 cU n9
        generalize later wr p' = w3 at *
        have s9 := Sl.blk (k := .u64) [y] g9 rfl
        go_wp2_with (at_builtin; refine wpList_app _ rfl _ _ 31 rfl w.heap.size 22 .u64 8 Try.underlying31 Try.infoU64 (by decide) _ (cl n true xs s0 i) [y] 1 _ rfl rfl G.own s9 (by have := hlen.out; simp; omega) G.b.size ?_; intro v' w' hown hg; refine Hold.mk ?_)
        refine Hold.go ?_
        have G5 := G.app hown hg
        rw [← hset.out] at G5
        clear hown g9 s9 hb3 hset hlen
        obtain ⟨g, cap, rfl, _⟩ := G5.own.open_ hlen1.out (by omega)
        have d0 := G5.own.cell (j := i) (by omega)
        rw [hgt.out] at d0
        have c0 := G5.st.cell (j := 0) (v := .int .u64 s.a) rfl; have c1 := G5.st.cell (j := 1) (v := .int .u64 s.b) rfl; have c2 := G5.st.cell (j := 2) (v := .int .u64 s.c) rfl
        have fs := G5.st.free
        have G6 := G5.setB y
        rw [← hs'.out] at G6
        clear hg G G5 hlen1
        go_wp2_with fail
        refine name_calls fun W4 hW4 => ?_
        rw [← hW4] at G6
        clear hW4 c0 c1 c2 d0 fs hc
        refine (cP W4).mono ?_
        rintro e w5 ⟨rfl, hb5⟩
        replace G6 := G6.mono hb5
        clear hb5 cP
        have c0 := G6.st.cell (j := 0) rfl; have c1 := G6.st.cell (j := 1) rfl; have c2 := G6.st.cell (j := 2) rfl
        have fs := G6.st.free
        replace G6 := G6.set3 q
        go_wp2
        go_roundw
        case rel => exact ⟨i + 1, by omega, by go_num, by rw [hst.out]; exact G6⟩
        case measure => simp [intOf]; omega
      · have hm : (i : Int) % 2 = 0 := by omega
        have hmt : (i : Int).tmod 2 = 0 := by rw [Int.tmod_eq_emod_of_nonneg (by omega)]; exact hm
        have hlst : ((i : Int) == (n : Int) - 1) = true := (by simp; omega)
        unfold cnext at hst
        rw [(if_pos (.inr hz.2)), hz.1] at hst
        rw [hz.1] at hset hgt
        obtain ⟨y, hy⟩ : ∃ y, y = cout true s 0 x := ⟨_, rfl⟩
        have hyb := cout_bd true s 0 x
        have hcc : ccip true s 0 x = y := hy.symm
        rw [hcc] at hst
        rw [← hy] at hset hyb hgt
        have sk := getk_bd sW 0
        have cU : ∀ W : World, Calls Try.prog 28 #[.int .u64 18446744069414584321, .int .u64 x, .int .u64 s.a] W fun e w' => e = .returned (.int .u64 y) ∧ Below W.heap.size W w' := fun W => by
          rw [hy]; exact rAdd_any big x s.a W x0 x1 sk.1 sk.2
        have sW' : W3 (⟨y, s.b, s.c⟩ : T3) := setk_W3 sW 0 hyb
        have hsk : setk s 0 y = ⟨y, s.b, s.c⟩ := rfl
        rw [hsk] at hst
        obtain ⟨s', hs'⟩ : ∃ s', s' = (⟨y, s.b, s.c⟩ : T3) := ⟨_, rfl⟩
        have cP : ∀ W : World, Calls Try.prog 34 #[.int .u64 18446744069414584321, .agg #[.int .u64 s'.a, .int .u64 s'.b, .int .u64 s'.c]] W fun e w' => e = .returned (.agg #[.int .u64 (permute big s').a, .int .u64 (permute big s').b, .int .u64 (permute big s').c]) ∧ Below W.heap.size W w' := fun W => rPermute_any big s' W (by rw [hs']; exact sW')
        rw [← hs'] at hst
        obtain ⟨q, hq⟩ : ∃ q, q = permute big s' := ⟨_, rfl⟩
        rw [← hq] at cP
        try rw [← hq] at hst
        rw [hs'] at cP
        replace hst := hide hst
        replace hset := hide hset
        replace hs' := hide hs'
        replace hgt := hide hgt
        clear hq hy sW sk sW' hsk hcc
        replace hz := hide hz
        go_wp2_with fail
        have k1 := cell_later' hc
        have k2 := cell_later' (G.st.cell (j := 0) (v := .int .u64 s.a) rfl)
        refine Rel.wp_region_mix 10 [] [(9, NewS wr.heap.size y 22)] Try.mixed (by kernel_rfl) (by kernel_rfl) ?_ ?_
        rotate_left
        simp only [List.take_succ_cons, List.take_zero, List.drop_succ_cons, List.drop_zero, List.map_cons, List.map_nil]
        repeat (first | (refine Rel.wpA_b (by rfl) ?_) | (refine Rel.wpA_step (by rfl) fun K hK => ?_; go_simp; first | (refine hK _ ?_; clear hK K) | (apply Exists.intro; refine ⟨fun _ => ?_, hK _ ?_⟩; (first | (go_at_call 28; exact cU _)); clear hK K)))
        refine Rel.wpA_nil ?_
        rotate_left
        · intro z hz v u u' h1 h2
          simp only [List.mem_cons, List.not_mem_nil, or_false] at hz
          subst hz
          exact NewS.keep h1 h2
        refine Rel.wpB_step _ rfl rfl (fun p' hc => ?_) (fun v9 => ?_)
        · go_simp
          exact rUpon_news _ _ _ _
        refine Rel.wpB_nil ?_
        intro p' hctx hfr
        simp only [List.nil_append, List.mem_cons, List.not_mem_nil, or_false, forall_eq] at hctx
        obtain ⟨bn, rfl, n9, g9⟩ := hctx
        have hb3 : Below wr.heap.size wr (later wr p') := below_later _ _
        replace G := G.mono hb3
        clear hfr k1 k2 cU n9
        generalize later wr p' = w3 at *
        have s9 := Sl.blk (k := .u64) [y] g9 rfl
        go_wp2_with (at_builtin; refine wpList_app _ rfl _ _ 31 rfl w.heap.size 22 .u64 8 Try.underlying31 Try.infoU64 (by decide) _ (cl n true xs s0 i) [y] 1 _ rfl rfl G.own s9 (by have := hlen.out; simp; omega) G.b.size ?_; intro v' w' hown hg; refine Hold.mk ?_)
        refine Hold.go ?_
        have G5 := G.app hown hg
        rw [← hset.out] at G5
        clear hown g9 s9 hb3 hset hlen
        obtain ⟨g, cap, rfl, _⟩ := G5.own.open_ hlen1.out (by omega)
        have d0 := G5.own.cell (j := i) (by omega)
        rw [hgt.out] at d0
        have c0 := G5.st.cell (j := 0) (v := .int .u64 s.a) rfl; have c1 := G5.st.cell (j := 1) (v := .int .u64 s.b) rfl; have c2 := G5.st.cell (j := 2) (v := .int .u64 s.c) rfl
        have fs := G5.st.free
        have G6 := G5.setA y
        rw [← hs'.out] at G6
        clear hg G G5 hlen1
        go_wp2_with fail
        refine name_calls fun W4 hW4 => ?_
        rw [← hW4] at G6
        clear hW4 c0 c1 c2 d0 fs hc
        refine (cP W4).mono ?_
        rintro e w5 ⟨rfl, hb5⟩
        replace G6 := G6.mono hb5
        clear hb5 cP
        have c0 := G6.st.cell (j := 0) rfl; have c1 := G6.st.cell (j := 1) rfl; have c2 := G6.st.cell (j := 2) rfl
        have fs := G6.st.free
        replace G6 := G6.set3 q
        go_wp2
        go_roundw
        case rel => exact ⟨i + 1, by omega, by go_num, by rw [hst.out]; exact G6⟩
        case measure => simp [intOf]; omega
      · have hm : (i : Int) % 2 = 0 := by omega
        have hmt : (i : Int).tmod 2 = 0 := by rw [Int.tmod_eq_emod_of_nonneg (by omega)]; exact hm
        have hlst : ((i : Int) == (n : Int) - 1) = false := (by simp; omega)
        unfold cnext at hst
        rw [(if_neg (by omega)), hz.1] at hst
        rw [hz.1] at hset hgt
        obtain ⟨y, hy⟩ : ∃ y, y = cout true s 0 x := ⟨_, rfl⟩
        have hyb := cout_bd true s 0 x
        have hcc : ccip true s 0 x = y := hy.symm
        rw [hcc] at hst
        rw [← hy] at hset hyb hgt
        have sk := getk_bd sW 0
        have cU : ∀ W : World, Calls Try.prog 28 #[.int .u64 18446744069414584321, .int .u64 x, .int .u64 s.a] W fun e w' => e = .returned (.int .u64 y) ∧ Below W.heap.size W w' := fun W => by
          rw [hy]; exact rAdd_any big x s.a W x0 x1 sk.1 sk.2
        have sW' : W3 (⟨y, s.b, s.c⟩ : T3) := setk_W3 sW 0 hyb
        have hsk : setk s 0 y = ⟨y, s.b, s.c⟩ := rfl
        rw [hsk] at hst
        obtain ⟨s', hs'⟩ : ∃ s', s' = (⟨y, s.b, s.c⟩ : T3) := ⟨_, rfl⟩
        have cP : ∀ W : World, Calls Try.prog 34 #[.int .u64 18446744069414584321, .agg #[.int .u64 s'.a, .int .u64 s'.b, .int .u64 s'.c]] W fun e w' => e = .returned (.agg #[.int .u64 (permute big s').a, .int .u64 (permute big s').b, .int .u64 (permute big s').c]) ∧ Below W.heap.size W w' := fun W => rPermute_any big s' W (by rw [hs']; exact sW')
        rw [← hs'] at hst
        obtain ⟨q, hq⟩ : ∃ q, q = permute big s' := ⟨_, rfl⟩
        rw [← hq] at cP
        try rw [← hq] at hst
        rw [hs'] at cP
        replace hst := hide hst
        replace hset := hide hset
        replace hs' := hide hs'
        replace hgt := hide hgt
        clear hq hy sW sk sW' hsk hcc
        replace hz := hide hz
        go_wp2_with fail
        have k1 := cell_later' hc
        have k2 := cell_later' (G.st.cell (j := 0) (v := .int .u64 s.a) rfl)
        refine Rel.wp_region_mix 10 [] [(9, NewS wr.heap.size y 22)] Try.mixed (by kernel_rfl) (by kernel_rfl) ?_ ?_
        rotate_left
        simp only [List.take_succ_cons, List.take_zero, List.drop_succ_cons, List.drop_zero, List.map_cons, List.map_nil]
        repeat (first | (refine Rel.wpA_b (by rfl) ?_) | (refine Rel.wpA_step (by rfl) fun K hK => ?_; go_simp; first | (refine hK _ ?_; clear hK K) | (apply Exists.intro; refine ⟨fun _ => ?_, hK _ ?_⟩; (first | (go_at_call 28; exact cU _)); clear hK K)))
        refine Rel.wpA_nil ?_
        rotate_left
        · intro z hz v u u' h1 h2
          simp only [List.mem_cons, List.not_mem_nil, or_false] at hz
          subst hz
          exact NewS.keep h1 h2
        refine Rel.wpB_step _ rfl rfl (fun p' hc => ?_) (fun v9 => ?_)
        · go_simp
          exact rUpon_news _ _ _ _
        refine Rel.wpB_nil ?_
        intro p' hctx hfr
        simp only [List.nil_append, List.mem_cons, List.not_mem_nil, or_false, forall_eq] at hctx
        obtain ⟨bn, rfl, n9, g9⟩ := hctx
        have hb3 : Below wr.heap.size wr (later wr p') := below_later _ _
        replace G := G.mono hb3
        clear hfr k1 k2 cU n9
        generalize later wr p' = w3 at *
        have s9 := Sl.blk (k := .u64) [y] g9 rfl
        go_wp2_with (at_builtin; refine wpList_app _ rfl _ _ 31 rfl w.heap.size 22 .u64 8 Try.underlying31 Try.infoU64 (by decide) _ (cl n true xs s0 i) [y] 1 _ rfl rfl G.own s9 (by have := hlen.out; simp; omega) G.b.size ?_; intro v' w' hown hg; refine Hold.mk ?_)
        refine Hold.go ?_
        have G5 := G.app hown hg
        rw [← hset.out] at G5
        clear hown g9 s9 hb3 hset hlen
        obtain ⟨g, cap, rfl, _⟩ := G5.own.open_ hlen1.out (by omega)
        have d0 := G5.own.cell (j := i) (by omega)
        rw [hgt.out] at d0
        have c0 := G5.st.cell (j := 0) (v := .int .u64 s.a) rfl; have c1 := G5.st.cell (j := 1) (v := .int .u64 s.b) rfl; have c2 := G5.st.cell (j := 2) (v := .int .u64 s.c) rfl
        have fs := G5.st.free
        have G6 := G5.setA y
        rw [← hs'.out] at G6
        clear hg G G5 hlen1
        go_wp2_with fail
        rw [← hst.out] at G6
        clear c0 c1 c2 d0 fs hc
        go_roundw
        case rel => exact ⟨i + 1, by omega, by go_num, G6⟩
        case measure => simp [intOf]; omega
    · obtain rfl : i = n := by omega
      have k2 := cell_later' (G.st.cell (j := 0) (v := .int .u64 (cst i true xs s0 i).a) rfl)
      have Go := G.own
      have Gb := G.b
      clear G
      go_wp2_with fail
      refine wp_region_later Try.mixed (by kernel_rfl) ?_
      repeat (first | go_big_quiet_step (first | fail) | quiet_step (first | fail))
      refine wpQuiet_nil ?_
      intro w3 hb3
      replace hb3 := below_of_later hb3
      go_wp2
      go_ret2
      exact ⟨_, rfl, Go.mono hb3, below2 Gb hb3⟩
set_option maxRecDepth 10000 in
set_option maxHeartbeats 4000000 in
theorem rRun_false (key nonce : Int) (ad : Option Addr) (c : Nat) (xs : List Int) (w : World) (k0 : 0 ≤ key) (k1 : key < 18446744073709551616) (g0 : 0 ≤ nonce) (g1 : nonce < 18446744073709551616) (hs : Sl w .u64 ad xs) (hw : AllW xs) (hl : xs.length < 1099511627770) :
    Calls Try.prog 80 #[.int .u64 key, .int .u64 nonce, .slice ad xs.length c, .bool false] w (RetDec w (cOut false key nonce xs) (cTag false key nonce xs)) := by
  have hW0 := cstart_W3 key nonce xs.length k0 k1 g0 g1
  have cS : ∀ W : World, Calls Try.prog 34 #[.int .u64 18446744069414584321, .agg #[.int .u64 key, .int .u64 nonce, .int .u64 (786432 + (xs.length : Int))]] W fun e w' => e = .returned (.agg #[.int .u64 (cstart key nonce xs.length).a, .int .u64 (cstart key nonce xs.length).b, .int .u64 (cstart key nonce xs.length).c]) ∧ Below W.heap.size W w' := fun W => by
    have := rPermute_any big ⟨key, nonce, 786432 + (xs.length : Int)⟩ W ⟨⟨k0, k1⟩, ⟨g0, g1⟩, by simp only []; omega, by simp only []; omega⟩
    rwa [cstart_plain _ _ _ (by omega)] at this
  have e1 : cOut false key nonce xs = cl xs.length false xs (cstart key nonce xs.length) xs.length := rfl
  have e2 : cTag false key nonce xs = (cst xs.length false xs (cstart key nonce xs.length) xs.length).a := rfl
  rw [e1, e2]
  obtain ⟨s0, hs0⟩ : ∃ s0, s0 = cstart key nonce xs.length := ⟨_, rfl⟩
  rw [← hs0] at cS hW0 ⊢
  obtain ⟨n, hn⟩ : ∃ n, n = xs.length := ⟨_, rfl⟩
  have hcW := cst_W3 n false xs s0 hW0 hw
  have hxn := hn
  rw [← hn] at cS hl ⊢
  replace hxn := hide hxn
  replace hcW := hide hcW
  have hcv : IntKind.u64.wrap (n : Int) = n := by rw [IntKind.wrap_u64]; omega
  clear hs0 e1 e2 k0 k1 g0 g1 hW0 hn
  go_enter Try.func80, Try.ntmps80
  go_wp2_with fail
  refine name_calls fun W hW => ?_
  have hB : Below w.heap.size w W := by rw [hW]; exact (Below.refl _ _).alloc (Nat.le_refl _) _
  have gO : Own W w.heap.size 22 .u64 (.slice (some ⟨w.heap.size, 0, none⟩) 0 0) [] := by rw [hW]; exact Own.empty (Nat.le_refl _)
  have lO : w.heap.size < W.heap.size := by rw [hW]; simp
  clear hW
  refine (cS W).mono ?_
  rintro e w1 ⟨rfl, hb1⟩
  replace lO := Nat.lt_of_lt_of_le lO hb1.size
  replace gO := gO.mono hb1
  replace hB := below2 hB hb1
  have H0 : CSt false w (w1.alloc (.cells #[.int .u64 s0.a, .int .u64 s0.b, .int .u64 s0.c] 26)) 0 w1.heap.size s0 (.slice (some ⟨w.heap.size, 0, none⟩) 0 0) (cl n false xs s0 0) :=
    ⟨hB.alloc hB.size _, fun h => (by cases h), Blk.newAt rfl, gO.alloc _, by simp [Value.ownBlock]; omega, fun h => (by cases h), hB.size, fun h => (by cases h)⟩
  clear hb1 cS gO hB lO hcv
  go_wp2_with fail
  generalize w1.heap.size = bs at *
  go_loopw [10, 12] (fun t10 t12 wr => ∃ i : Nat, i ≤ n ∧ t12 = .int .i64 i ∧ CSt false w wr 0 bs (cst n false xs s0 i) t10 (cl n false xs s0 i)) (fun _ t12 _ => n - (intOf t12).toNat)
  case atStart => exact ⟨0, by omega, rfl, H0⟩
  case round =>
    obtain ⟨i, hi, rfl, G⟩ := hrel
    clear H0
    by_cases hlt : i < n
    · have hlx : i < xs.length := by rw [← hxn.out]; exact hlt
      obtain ⟨b, off, rfl, hbl, hc⟩ := (hs.mono G.b).get hlx
      have hbw : b < w.heap.size := by
        obtain ⟨b', o', e, h1, _⟩ := hs.get hlx
        cases e
        exact h1
      have hxb := hw.get hlx
      have sW := hcW.out i (by omega)
      have hst : cst n false xs s0 (i + 1) = cnext n false i (cst n false xs s0 i) (xs.getD i 0) := rfl
      have hset := cl_succ n false xs s0 i
      have hy : ce n false xs s0 i = cout false (cst n false xs s0 i) (i % 2) (xs.getD i 0) := rfl
      have hlen : Hid ((cl n false xs s0 i).length = i) := hide (cl_len _ _ _ _ _)
      have hlen1 : Hid ((cl n false xs s0 (i + 1)).length = i + 1) := hide (cl_len _ _ _ _ _)
      have hgt : (cl n false xs s0 (i + 1)).getD i 0 = ce n false xs s0 i := cl_get _ _ _ _ (Nat.lt_succ_self i)
      rw [hy] at hset hgt
      obtain ⟨s, hs'⟩ : ∃ s, s = cst n false xs s0 i := ⟨_, rfl⟩
      obtain ⟨x, hx⟩ : ∃ x, x = xs.getD i 0 := ⟨_, rfl⟩
      rw [← hs'] at G hst hset sW hgt
      rw [← hx] at hc hst hset hxb hgt
      clear hx hs' hy hlx
      obtain ⟨x0, x1⟩ := hxb
      obtain hz | hz | hz : i % 2 = 1 ∨ (i % 2 = 0 ∧ i + 1 = n) ∨ (i % 2 = 0 ∧ ¬ i + 1 = n) := by omega
      · have hm : (i : Int) % 2 = 1 := by omega
        have hmt : (i : Int).tmod 2 = 1 := by rw [Int.tmod_eq_emod_of_nonneg (by omega)]; exact hm
        have hlst : True := trivial
        unfold cnext at hst
        rw [(if_pos (.inl hz)), hz] at hst
        rw [hz] at hset hgt
        obtain ⟨y, hy⟩ : ∃ y, y = cout false s 1 x := ⟨_, rfl⟩
        have hyb := cout_bd false s 1 x
        have hcc : ccip false s 1 x = x := rfl
        rw [hcc] at hst
        rw [← hy] at hset hyb hgt
        have sk := getk_bd sW 1
        have cU : ∀ W : World, Calls Try.prog 67 #[.int .u64 18446744069414584321, .int .u64 x, .int .u64 s.b] W fun e w' => e = .returned (.int .u64 y) ∧ Below W.heap.size W w' := fun W => by
          rw [hy]; exact rSub_any big x s.b W x0 x1 sk.1 sk.2
        have sW' : W3 (⟨s.a, x, s.c⟩ : T3) := setk_W3 sW 1 ⟨x0, x1⟩
        have hsk : setk s 1 x = ⟨s.a, x, s.c⟩ := rfl
        rw [hsk] at hst
        obtain ⟨s', hs'⟩ : ∃ s', s' = (⟨s.a, x, s.c⟩ : T3) := ⟨_, rfl⟩
        have cP : ∀ W : World, Calls Try.prog 34 #[.int .u64 18446744069414584321, .agg #[.int .u64 s'.a, .int .u64 s'.b, .int .u64 s'.c]] W fun e w' => e = .returned (.agg #[.int .u64 (permute big s').a, .int .u64 (permute big s').b, .int .u64 (permute big s').c]) ∧ Below W.heap.size W w' := fun W => rPermute_any big s' W (by rw [hs']; exact sW')
        rw [← hs'] at hst
        obtain ⟨q, hq⟩ : ∃ q, q = permute big s' := ⟨_, rfl⟩
        rw [← hq] at cP
        try rw [← hq] at hst
        rw [hs'] at cP
        replace hst := hide hst
        replace hset := hide hset
        replace hs' := hide hs'
        replace hgt := hide hgt
        clear hq hy sW sk sW' hsk hcc
        replace hz := hide hz
        go_wp2_with fail
        have k1 := cell_later' hc
        have k2 := cell_later' (G.st.cell (j := 1) (v := .int .u64 s.b) rfl)
        refine Rel.wp_region_mix 10 [] [(9, NewS wr.heap.size y 22)] Try.mixed (by kernel_rfl) (by kernel_rfl) ?_ ?_
        rotate_left
        simp only [List.take_succ_cons, List.take_zero, List.drop_succ_cons, List.drop_zero, List.map_cons, List.map_nil]
        repeat (first | (refine Rel.wpA_b (by rfl) ?_) | (refine Rel.wpA_step (by rfl) fun K hK => ?_; go_simp; first | (refine hK _ ?_; clear hK K) | (apply Exists.intro; refine ⟨fun _ => ?_, hK _ ?_⟩; (first | (go_at_call 67; exact cU _)); clear hK K)))
        refine Rel.wpA_nil ?_
        rotate_left
        · intro z hz v u u' h1 h2
          simp only [List.mem_cons, List.not_mem_nil, or_false] at hz
          subst hz
          exact NewS.keep h1 h2
        refine Rel.wpB_step _ rfl rfl (fun p' hc => ?_) (fun v9 => ?_)
        · go_simp
          exact rUpon_news _ _ _ _
        refine Rel.wpB_nil ?_
        intro p' hctx hfr
        simp only [List.nil_append, List.mem_cons, List.not_mem_nil, or_false, forall_eq] at hctx
        obtain ⟨bn, rfl, n9, g9⟩ := hctx
        have hb3 : Below wr.heap.size wr (later wr p') := below_later _ _
        replace G := G.mono hb3
        have hc := cell_below hb3 hc
        clear hfr k1 k2 cU n9
        generalize later wr p' = w3 at *
        have s9 := Sl.blk (k := .u64) [y] g9 rfl
        go_wp2_with (at_builtin; refine wpList_app _ rfl _ _ 31 rfl w.heap.size 22 .u64 8 Try.underlying31 Try.infoU64 (by decide) _ (cl n false xs s0 i) [y] 1 _ rfl rfl G.own s9 (by have := hlen.out; simp; omega) G.b.size ?_; intro v' w' hown hg; refine Hold.mk ?_)
        refine Hold.go ?_
        have G5 := G.app hown hg
        rw [← hset.out] at G5
        have hc := hg.by_.cell hc (fun h => by have h1 : w.heap.size ≤ b := (G.own.lt h.symm).1; omega)
        clear hown g9 s9 hb3 hset hlen
        obtain ⟨g, cap, rfl, _⟩ := G5.own.open_ hlen1.out (by omega)
        have d0 := G5.own.cell (j := i) (by omega)
        rw [hgt.out] at d0
        have c0 := G5.st.cell (j := 0) (v := .int .u64 s.a) rfl; have c1 := G5.st.cell (j := 1) (v := .int .u64 s.b) rfl; have c2 := G5.st.cell (j := 2) (v := .int .u64 s.c) rfl
        have fs := G5.st.free
        have G6 := G5.setB x
        rw [← hs'.out] at G6
        clear hg G G5 hlen1
        go_wp2_with fail
        refine name_calls fun W4 hW4 => ?_
        rw [← hW4] at G6
        clear hW4 c0 c1 c2 d0 fs hc
        refine (cP W4).mono ?_
        rintro e w5 ⟨rfl, hb5⟩
        replace G6 := G6.mono hb5
        clear hb5 cP
        have c0 := G6.st.cell (j := 0) rfl; have c1 := G6.st.cell (j := 1) rfl; have c2 := G6.st.cell (j := 2) rfl
        have fs := G6.st.free
        replace G6 := G6.set3 q
        go_wp2
        go_roundw
        case rel => exact ⟨i + 1, by omega, by go_num, by rw [hst.out]; exact G6⟩
        case measure => simp [intOf]; omega
      · have hm : (i : Int) % 2 = 0 := by omega
        have hmt : (i : Int).tmod 2 = 0 := by rw [Int.tmod_eq_emod_of_nonneg (by omega)]; exact hm
        have hlst : ((i : Int) == (n : Int) - 1) = true := (by simp; omega)
        unfold cnext at hst
        rw [(if_pos (.inr hz.2)), hz.1] at hst
        rw [hz.1] at hset hgt
        obtain ⟨y, hy⟩ : ∃ y, y = cout false s 0 x := ⟨_, rfl⟩
        have hyb := cout_bd false s 0 x
        have hcc : ccip false s 0 x = x := rfl
        rw [hcc] at hst
        rw [← hy] at hset hyb hgt
        have sk := getk_bd sW 0
        have cU : ∀ W : World, Calls Try.prog 67 #[.int .u64 18446744069414584321, .int .u64 x, .int .u64 s.a] W fun e w' => e = .returned (.int .u64 y) ∧ Below W.heap.size W w' := fun W => by
          rw [hy]; exact rSub_any big x s.a W x0 x1 sk.1 sk.2
        have sW' : W3 (⟨x, s.b, s.c⟩ : T3) := setk_W3 sW 0 ⟨x0, x1⟩
        have hsk : setk s 0 x = ⟨x, s.b, s.c⟩ := rfl
        rw [hsk] at hst
        obtain ⟨s', hs'⟩ : ∃ s', s' = (⟨x, s.b, s.c⟩ : T3) := ⟨_, rfl⟩
        have cP : ∀ W : World, Calls Try.prog 34 #[.int .u64 18446744069414584321, .agg #[.int .u64 s'.a, .int .u64 s'.b, .int .u64 s'.c]] W fun e w' => e = .returned (.agg #[.int .u64 (permute big s').a, .int .u64 (permute big s').b, .int .u64 (permute big s').c]) ∧ Below W.heap.size W w' := fun W => rPermute_any big s' W (by rw [hs']; exact sW')
        rw [← hs'] at hst
        obtain ⟨q, hq⟩ : ∃ q, q = permute big s' := ⟨_, rfl⟩
        rw [← hq] at cP
        try rw [← hq] at hst
        rw [hs'] at cP
        replace hst := hide hst
        replace hset := hide hset
        replace hs' := hide hs'
        replace hgt := hide hgt
        clear hq hy sW sk sW' hsk hcc
        replace hz := hide hz
        go_wp2_with fail
        have k1 := cell_later' hc
        have k2 := cell_later' (G.st.cell (j := 0) (v := .int .u64 s.a) rfl)
        refine Rel.wp_region_mix 10 [] [(9, NewS wr.heap.size y 22)] Try.mixed (by kernel_rfl) (by kernel_rfl) ?_ ?_
        rotate_left
        simp only [List.take_succ_cons, List.take_zero, List.drop_succ_cons, List.drop_zero, List.map_cons, List.map_nil]
        repeat (first | (refine Rel.wpA_b (by rfl) ?_) | (refine Rel.wpA_step (by rfl) fun K hK => ?_; go_simp; first | (refine hK _ ?_; clear hK K) | (apply Exists.intro; refine ⟨fun _ => ?_, hK _ ?_⟩; (first | (go_at_call 67; exact cU _)); clear hK K)))
        refine Rel.wpA_nil ?_
        rotate_left
        · intro z hz v u u' h1 h2
          simp only [List.mem_cons, List.not_mem_nil, or_false] at hz
          subst hz
          exact NewS.keep h1 h2
        refine Rel.wpB_step _ rfl rfl (fun p' hc => ?_) (fun v9 => ?_)
        · go_simp
          exact rUpon_news _ _ _ _
        refine Rel.wpB_nil ?_
        intro p' hctx hfr
        simp only [List.nil_append, List.mem_cons, List.not_mem_nil, or_false, forall_eq] at hctx
        obtain ⟨bn, rfl, n9, g9⟩ := hctx
        have hb3 : Below wr.heap.size wr (later wr p') := below_later _ _
        replace G := G.mono hb3
        have hc := cell_below hb3 hc
        clear hfr k1 k2 cU n9
        generalize later wr p' = w3 at *
        have s9 := Sl.blk (k := .u64) [y] g9 rfl
        go_wp2_with (at_builtin; refine wpList_app _ rfl _ _ 31 rfl w.heap.size 22 .u64 8 Try.underlying31 Try.infoU64 (by decide) _ (cl n false xs s0 i) [y] 1 _ rfl rfl G.own s9 (by have := hlen.out; simp; omega) G.b.size ?_; intro v' w' hown hg; refine Hold.mk ?_)
        refine Hold.go ?_
        have G5 := G.app hown hg
        rw [← hset.out] at G5
        have hc := hg.by_.cell hc (fun h => by have h1 : w.heap.size ≤ b := (G.own.lt h.symm).1; omega)
        clear hown g9 s9 hb3 hset hlen
        obtain ⟨g, cap, rfl, _⟩ := G5.own.open_ hlen1.out (by omega)
        have d0 := G5.own.cell (j := i) (by omega)
        rw [hgt.out] at d0
        have c0 := G5.st.cell (j := 0) (v := .int .u64 s.a) rfl; have c1 := G5.st.cell (j := 1) (v := .int .u64 s.b) rfl; have c2 := G5.st.cell (j := 2) (v := .int .u64 s.c) rfl
        have fs := G5.st.free
        have G6 := G5.setA x
        rw [← hs'.out] at G6
        clear hg G G5 hlen1
        go_wp2_with fail
        refine name_calls fun W4 hW4 => ?_
        rw [← hW4] at G6
        clear hW4 c0 c1 c2 d0 fs hc
        refine (cP W4).mono ?_
        rintro e w5 ⟨rfl, hb5⟩
        replace G6 := G6.mono hb5
        clear hb5 cP
        have c0 := G6.st.cell (j := 0) rfl; have c1 := G6.st.cell (j := 1) rfl; have c2 := G6.st.cell (j := 2) rfl
        have fs := G6.st.free
        replace G6 := G6.set3 q
        go_wp2
        go_roundw
        case rel => exact ⟨i + 1, by omega, by go_num, by rw [hst.out]; exact G6⟩
        case measure => simp [intOf]; omega
      · have hm : (i : Int) % 2 = 0 := by omega
        have hmt : (i : Int).tmod 2 = 0 := by rw [Int.tmod_eq_emod_of_nonneg (by omega)]; exact hm
        have hlst : ((i : Int) == (n : Int) - 1) = false := (by simp; omega)
        unfold cnext at hst
        rw [(if_neg (by omega)), hz.1] at hst
        rw [hz.1] at hset hgt
        obtain ⟨y, hy⟩ : ∃ y, y = cout false s 0 x := ⟨_, rfl⟩
        have hyb := cout_bd false s 0 x
        have hcc : ccip false s 0 x = x := rfl
        rw [hcc] at hst
        rw [← hy] at hset hyb hgt
        have sk := getk_bd sW 0
        have cU : ∀ W : World, Calls Try.prog 67 #[.int .u64 18446744069414584321, .int .u64 x, .int .u64 s.a] W fun e w' => e = .returned (.int .u64 y) ∧ Below W.heap.size W w' := fun W => by
          rw [hy]; exact rSub_any big x s.a W x0 x1 sk.1 sk.2
        have sW' : W3 (⟨x, s.b, s.c⟩ : T3) := setk_W3 sW 0 ⟨x0, x1⟩
        have hsk : setk s 0 x = ⟨x, s.b, s.c⟩ := rfl
        rw [hsk] at hst
        obtain ⟨s', hs'⟩ : ∃ s', s' = (⟨x, s.b, s.c⟩ : T3) := ⟨_, rfl⟩
        have cP : ∀ W : World, Calls Try.prog 34 #[.int .u64 18446744069414584321, .agg #[.int .u64 s'.a, .int .u64 s'.b, .int .u64 s'.c]] W fun e w' => e = .returned (.agg #[.int .u64 (permute big s').a, .int .u64 (permute big s').b, .int .u64 (permute big s').c]) ∧ Below W.heap.size W w' := fun W => rPermute_any big s' W (by rw [hs']; exact sW')
        rw [← hs'] at hst
        obtain ⟨q, hq⟩ : ∃ q, q = permute big s' := ⟨_, rfl⟩
        rw [← hq] at cP
        try rw [← hq] at hst
        rw [hs'] at cP
        replace hst := hide hst
        replace hset := hide hset
        replace hs' := hide hs'
        replace hgt := hide hgt
        clear hq hy sW sk sW' hsk hcc
        replace hz := hide hz
        go_wp2_with fail
        have k1 := cell_later' hc
        have k2 := cell_later' (G.st.cell (j := 0) (v := .int .u64 s.a) rfl)
        refine Rel.wp_region_mix 10 [] [(9, NewS wr.heap.size y 22)] Try.mixed (by kernel_rfl) (by kernel_rfl) ?_ ?_
        rotate_left
        simp only [List.take_succ_cons, List.take_zero, List.drop_succ_cons, List.drop_zero, List.map_cons, List.map_nil]
        repeat (first | (refine Rel.wpA_b (by rfl) ?_) | (refine Rel.wpA_step (by rfl) fun K hK => ?_; go_simp; first | (refine hK _ ?_; clear hK K) | (apply Exists.intro; refine ⟨fun _ => ?_, hK _ ?_⟩; (first | (go_at_call 67; exact cU _)); clear hK K)))
        refine Rel.wpA_nil ?_
        rotate_left
        · intro z hz v u u' h1 h2
          simp only [List.mem_cons, List.not_mem_nil, or_false] at hz
          subst hz
          exact NewS.keep h1 h2
        refine Rel.wpB_step _ rfl rfl (fun p' hc => ?_) (fun v9 => ?_)
        · go_simp
          exact rUpon_news _ _ _ _
        refine Rel.wpB_nil ?_
        intro p' hctx hfr
        simp only [List.nil_append, List.mem_cons, List.not_mem_nil, or_false, forall_eq] at hctx
        obtain ⟨bn, rfl, n9, g9⟩ := hctx
        have hb3 : Below wr.heap.size wr (later wr p') := below_later _ _
        replace G := G.mono hb3
        have hc := cell_below hb3 hc
        clear hfr k1 k2 cU n9
        generalize later wr p' = w3 at *
        have s9 := Sl.blk (k := .u64) [y] g9 rfl
        go_wp2_with (at_builtin; refine wpList_app _ rfl _ _ 31 rfl w.heap.size 22 .u64 8 Try.underlying31 Try.infoU64 (by decide) _ (cl n false xs s0 i) [y] 1 _ rfl rfl G.own s9 (by have := hlen.out; simp; omega) G.b.size ?_; intro v' w' hown hg; refine Hold.mk ?_)
        refine Hold.go ?_
        have G5 := G.app hown hg
        rw [← hset.out] at G5
        have hc := hg.by_.cell hc (fun h => by have h1 : w.heap.size ≤ b := (G.own.lt h.symm).1; omega)
        clear hown g9 s9 hb3 hset hlen
        obtain ⟨g, cap, rfl, _⟩ := G5.own.open_ hlen1.out (by omega)
        have d0 := G5.own.cell (j := i) (by omega)
        rw [hgt.out] at d0
        have c0 := G5.st.cell (j := 0) (v := .int .u64 s.a) rfl; have c1 := G5.st.cell (j := 1) (v := .int .u64 s.b) rfl; have c2 := G5.st.cell (j := 2) (v := .int .u64 s.c) rfl
        have fs := G5.st.free
        have G6 := G5.setA x
        rw [← hs'.out] at G6
        clear hg G G5 hlen1
        go_wp2_with fail
        rw [← hst.out] at G6
        clear c0 c1 c2 d0 fs hc
        go_roundw
        case rel => exact ⟨i + 1, by omega, by go_num, G6⟩
        case measure => simp [intOf]; omega
    · obtain rfl : i = n := by omega
      have k2 := cell_later' (G.st.cell (j := 0) (v := .int .u64 (cst i false xs s0 i).a) rfl)
      have Go := G.own
      have Gb := G.b
      clear G
      go_wp2_with fail
      refine wp_region_later Try.mixed (by kernel_rfl) ?_
      repeat (first | go_big_quiet_step (first | fail) | quiet_step (first | fail))
      refine wpQuiet_nil ?_
      intro w3 hb3
      replace hb3 := below_of_later hb3
      go_wp2
      go_ret2
      exact ⟨_, rfl, Go.mono hb3, below2 Gb hb3⟩

end Go.Proofs.Ytaklpdhhcnnclaa
