/- The cipher: decrypt and what calls it. -/
import Derived.Test.YtaklpdhhcnnclaaCiph
namespace Go.Proofs.Ytaklpdhhcnnclaa
open Go.RowKit

/-- The first i values of f, and zeros. -/
def fillL (f : Nat → Int) (n i : Nat) : List Int := (List.range n).map fun j => if j < i then f j else 0
theorem fillL_zero (f : Nat → Int) (n : Nat) : fillL f n 0 = List.replicate n 0 := by
  refine List.ext_getElem (by simp [fillL]) fun i h1 h2 => ?_
  simp [fillL]
theorem fillL_full (f : Nat → Int) (n : Nat) : fillL f n n = (List.range n).map f := by
  refine List.ext_getElem (by simp [fillL]) fun i h1 h2 => ?_
  have : i < n := by simpa [fillL] using h1
  simp [fillL, this]
theorem fillL_set (f : Nat → Int) (n i : Nat) : (fillL f n i).set i (f i) = fillL f n (i + 1) := by
  refine List.ext_getElem (by simp [fillL]) fun j h1 h2 => ?_
  rw [List.getElem_set]
  simp only [fillL, List.getElem_map, List.getElem_range]
  by_cases h : i = j
  · subst h
    rw [if_pos rfl, if_pos (by omega)]
  · rw [if_neg h]
    by_cases h3 : j < i
    · rw [if_pos h3, if_pos (by omega)]
    · rw [if_neg h3, if_neg (by omega)]

/-- append of one element, which lies in the block just made; its number by an equation. -/
theorem wpList_appZ {P : Program} (w : World) {ops : Array Oper} {rest : List Oper} {o : Oper} {a : Act} {Q : Exit → Act → World → Prop} (E : TypeId) (k : IntKind) (y : Int) (hgd : o.guard = none) (s x : Operand) (t : TypeId)
    (ho : o.op = .call { callee := .builtin .append, args := #[s, x], argTypes := #[t, t] })
    (base : Nat) (bytes : Nat) (ht : P.underlying t = some (.slice E)) (hinfo : (P.info? E).map (fun i => (i.zero, i.size, i.bytes)) = some (some (.int k 0), 1, bytes)) (h8 : bytes ≤ 8)
    (v : Value) (xs : List Int) (z : Nat) (hs : a.eval s = v) (hx : a.eval x = .slice (some ⟨z, 0, none⟩) 1 1) (hz : z = w.heap.size) (hown : Own w base E k v xs) (hlen : xs.length < 1099511627775) (hbase : base ≤ w.heap.size)
    (h : ∀ v' w', Own w' base E k v' (xs ++ [y]) → Grew w w' v v' → wpList P ops Q rest (a.put o.dst v') w') : wpList P ops Q (o :: rest) a (w.alloc (.cells #[.int k y] E)) :=
  wpList_app1 w E k y hgd s x t ho base bytes ht hinfo h8 v xs hs (by rw [hx, hz]) hown hlen hbase h

/-- What decrypt returns. -/
def RetDec (w : World) (l : List Int) (t : Int) (e : Ending) (w' : World) : Prop := ∃ v, e = .returned (.tuple #[v, .int .u64 t]) ∧ Own w' w.heap.size 22 .u64 v l ∧ Below w.heap.size w w'

set_option maxRecDepth 10000 in
set_option maxHeartbeats 4000000 in
theorem decrypt_any (key nonce : Int) (ad : Option Addr) (c : Nat) (xs : List Int) (w : World) (k0 : 0 ≤ key) (k1 : key < 18446744073709551616) (g0 : 0 ≤ nonce) (g1 : nonce < 18446744073709551616) (hs : Sl w .u64 ad xs) (hw : AllW xs) (hl : xs.length < 1099511627776) :
    Calls Try.prog 81 #[.int .u64 key, .int .u64 nonce, .slice ad xs.length c] w (RetDec w (cOut false key nonce xs) (cTag false key nonce xs)) := by
  have cS := fun W : World => start_any key nonce xs.length W k0 k1 g0 g1 hl
  have hW0 := cstart_W3 key nonce xs.length k0 k1 g0 g1
  have e1 : cOut false key nonce xs = (List.range xs.length).map (ce xs.length false xs (cstart key nonce xs.length)) := rfl
  have e2 : cTag false key nonce xs = (cst xs.length false xs (cstart key nonce xs.length) xs.length).a := rfl
  rw [e1, e2]
  obtain ⟨s0, hs0⟩ : ∃ s0, s0 = cstart key nonce xs.length := ⟨_, rfl⟩
  rw [← hs0] at cS hW0 ⊢
  obtain ⟨n, hn⟩ : ∃ n, n = xs.length := ⟨_, rfl⟩
  have hcW := cst_W3 n false xs s0 hW0 hw
  obtain ⟨f, hf⟩ : ∃ f, f = ce n false xs s0 := ⟨_, rfl⟩
  have hxn := hn
  rw [← hn, ← hf]
  replace hxn := hide hxn
  replace hf := hide hf
  replace hcW := hide hcW
  clear hs0 e1 e2 k0 k1 g0 g1 hW0
  have hmk := fun W => run_mk (P := Try.prog) (t := 31) (e := 22) (k := .u64) (bytes := 8) Try.underlying31 Try.infoU64 (by decide) n n (Nat.le_refl _) (by omega) W
  rw [← hn] at cS hl
  go_enter Try.func81, Try.ntmps81
  clear hn
  go_wp2_with fail
  refine name_calls fun W hW => ?_
  have gf : Blk W w.heap.size #[.int .u64 18446744069414584321] 56 := by rw [hW]; exact Blk.newAt rfl
  have hB : Below w.heap.size w W := by rw [hW]; exact (Below.refl _ _).alloc (Nat.le_refl _) _
  clear hW
  refine (cS W).mono ?_
  rintro e w1 ⟨rfl, hb1⟩
  replace gf := gf.mono hb1
  replace hB := below2 hB hb1
  clear hb1 cS
  go_wp2_with fail
  refine name_world fun W hW => ?_
  have H0 : CSt true w W w.heap.size w1.heap.size s0 (.slice (some ⟨w1.heap.size + 1, 0, none⟩) n n) (fillL f n 0) := by
    have lf := gf.lt
    rw [hW, fillL_zero]
    have := Own.made (w := w1.alloc (.cells #[.int .u64 s0.a, .int .u64 s0.b, .int .u64 s0.c] 26)) (base := w.heap.size) (E := 22) (k := .u64) (cap := n) 0 (by have := hB.size; simp; omega) (by simp only [maxLen]; omega)
    exact ⟨(hB.alloc hB.size _).alloc (by have := hB.size; simp; omega) _, fun _ => (gf.alloc _).alloc _, (Blk.newAt rfl).alloc _, by simpa using this, by simp [Value.ownBlock], fun _ => by simp [Value.ownBlock]; omega, hB.size, fun _ => by omega⟩
  clear hW gf hB hmk
  generalize w1.heap.size = bs at *
  go_loopw [24] (fun t24 wr => ∃ i : Nat, i ≤ n ∧ t24 = .int .i64 i ∧ CSt true w wr w.heap.size bs (cst n false xs s0 i) (.slice (some ⟨bs + 1, 0, none⟩) n n) (fillL f n i)) (fun t24 _ => n - (intOf t24).toNat)
  case atStart => exact ⟨0, by omega, rfl, H0⟩
  case round =>
    obtain ⟨i, hi, rfl, G⟩ := hrel
    clear H0
    by_cases hlt : i < n
    · have hlx : i < xs.length := by rw [← hxn.out]; exact hlt
      obtain ⟨b, off, rfl, hbl, hc⟩ := (hs.mono G.b).get hlx
      have hxb := hw.get hlx
      have sW := hcW.out i (by omega)
      have hst : cst n false xs s0 (i + 1) = cnext n false i (cst n false xs s0 i) (xs.getD i 0) := rfl
      have hy : f i = cout false (cst n false xs s0 i) (i % 2) (xs.getD i 0) := by rw [hf.out]; rfl
      have hset := fillL_set f n i
      rw [hy] at hset
      obtain ⟨s, hs'⟩ : ∃ s, s = cst n false xs s0 i := ⟨_, rfl⟩
      obtain ⟨x, hx⟩ : ∃ x, x = xs.getD i 0 := ⟨_, rfl⟩
      rw [← hs'] at G hst hset sW
      rw [← hx] at hc hst hset hxb
      clear hx hs' hy hlx
      obtain ⟨x0, x1⟩ := hxb
      obtain hz | hz | hz : i % 2 = 1 ∨ (i % 2 = 0 ∧ i + 1 = n) ∨ (i % 2 = 0 ∧ ¬ i + 1 = n) := by omega
      · have hm : (i : Int) % 2 = 1 := by omega
        have hmt : (i : Int).tmod 2 = 1 := by rw [Int.tmod_eq_emod_of_nonneg (by omega)]; exact hm
        have hlst : True := trivial
        unfold cnext ccip at hst
        rw [if_pos (.inl hz), hz] at hst
        rw [hz] at hset
        obtain ⟨y, hy⟩ : ∃ y, y = cout false s 1 x := ⟨_, rfl⟩
        have hyb := cout_bd false s 1 x
        rw [← hy] at hset hyb
        have sk := getk_bd sW 1
        have cU : ∀ W : World, Calls Try.prog 64 #[.agg #[.int .u64 18446744069414584321], .int .u64 x, .int .u64 s.b] W fun e w' => e = .returned (.int .u64 y) ∧ Below W.heap.size W w' := fun W => by
          rw [hy]; exact Sub_any big x s.b W x0 x1 sk.1 sk.2
        have sW' : W3 (⟨s.a, x, s.c⟩ : T3) := setk_W3 sW 1 ⟨x0, x1⟩
        obtain ⟨s', hs'⟩ : ∃ s', s' = (⟨s.a, x, s.c⟩ : T3) := ⟨_, rfl⟩
        have cP : ∀ W : World, Calls Try.prog 33 #[.int .u64 18446744069414584321, .agg #[.int .u64 s'.a, .int .u64 s'.b, .int .u64 s'.c]] W fun e w' => e = .returned (.agg #[.int .u64 (permute big s').a, .int .u64 (permute big s').b, .int .u64 (permute big s').c]) ∧ Below W.heap.size W w' := fun W => Permute_any big s' W (by rw [hs']; exact sW')
        have hst' : cst n false (xs : List Int) s0 (i + 1) = permute big s' := by rw [hst, hs']; rfl
        obtain ⟨q, hq⟩ : ∃ q, q = permute big s' := ⟨_, rfl⟩
        rw [← hq] at cP hst'
        rw [hs'] at cP
        replace hst' := hide hst'
        replace hset := hide hset
        replace hs' := hide hs'
        clear hst hq hy sW sk sW'
        replace hz := hide hz
        go_wp2_with fail
        have k1 := cell_later' ((G.fld rfl).cell (j := 0) (v := .int .u64 18446744069414584321) rfl)
        have k2 := cell_later' (G.st.cell (j := 1) (v := .int .u64 s.b) rfl)
        refine Rel.wp_region_later_tail 10 Try.mixed (by kernel_rfl) ?_
        simp only [List.take_succ_cons, List.take_zero, List.drop_succ_cons, List.drop_zero]
        repeat (first | go_big_quiet_step (first | (go_at_call 64; exact Calls.later_of (cU _))) | quiet_step (first | (go_at_call 64; exact Calls.later_of (cU _))))
        refine wpQuiet_nil ?_
        intro w3 hb3
        replace hb3 := below_of_later hb3
        replace G := G.mono hb3
        have d0 := G.own.cell (j := i) hlt
        have df := G.own.free i
        have c0 := G.st.cell (j := 0) (v := .int .u64 s.a) rfl; have c1 := G.st.cell (j := 1) (v := .int .u64 s.b) rfl; have c2 := G.st.cell (j := 2) (v := .int .u64 s.c) rfl
        have fs := G.st.free
        have G4 := (G.out i y).setB x
        rw [hset.out] at G4
        clear k1 k2 hb3 G cU
        go_wp2_with fail
        refine name_calls fun W4 hW4 => ?_
        rw [← hW4] at G4
        clear hW4 d0 df c0 c1 c2 fs
        refine (cP W4).mono ?_
        rintro e w5 ⟨rfl, hb5⟩
        replace G4 := G4.mono hb5
        clear hb5 cP
        have c0 := G4.st.cell (j := 0) rfl; have c1 := G4.st.cell (j := 1) rfl; have c2 := G4.st.cell (j := 2) rfl
        have fs := G4.st.free
        have G5 := G4.set3 q
        clear G4
        go_wp2
        go_roundw
        case rel => exact ⟨i + 1, by omega, by go_num, by rw [hst'.out]; exact G5⟩
        case measure => simp [intOf]; omega
      · have hm : (i : Int) % 2 = 0 := by omega
        have hmt : (i : Int).tmod 2 = 0 := by rw [Int.tmod_eq_emod_of_nonneg (by omega)]; exact hm
        have hlst : ((i : Int) == (n : Int) - 1) = true := (by simp; omega)
        unfold cnext ccip at hst
        rw [if_pos (.inr hz.2), hz.1] at hst
        rw [hz.1] at hset
        obtain ⟨y, hy⟩ : ∃ y, y = cout false s 0 x := ⟨_, rfl⟩
        have hyb := cout_bd false s 0 x
        rw [← hy] at hset hyb
        have sk := getk_bd sW 0
        have cU : ∀ W : World, Calls Try.prog 64 #[.agg #[.int .u64 18446744069414584321], .int .u64 x, .int .u64 s.a] W fun e w' => e = .returned (.int .u64 y) ∧ Below W.heap.size W w' := fun W => by
          rw [hy]; exact Sub_any big x s.a W x0 x1 sk.1 sk.2
        have sW' : W3 (⟨x, s.b, s.c⟩ : T3) := setk_W3 sW 0 ⟨x0, x1⟩
        obtain ⟨s', hs'⟩ : ∃ s', s' = (⟨x, s.b, s.c⟩ : T3) := ⟨_, rfl⟩
        have cP : ∀ W : World, Calls Try.prog 33 #[.int .u64 18446744069414584321, .agg #[.int .u64 s'.a, .int .u64 s'.b, .int .u64 s'.c]] W fun e w' => e = .returned (.agg #[.int .u64 (permute big s').a, .int .u64 (permute big s').b, .int .u64 (permute big s').c]) ∧ Below W.heap.size W w' := fun W => Permute_any big s' W (by rw [hs']; exact sW')
        have hst' : cst n false (xs : List Int) s0 (i + 1) = permute big s' := by rw [hst, hs']; rfl
        obtain ⟨q, hq⟩ : ∃ q, q = permute big s' := ⟨_, rfl⟩
        rw [← hq] at cP hst'
        rw [hs'] at cP
        replace hst' := hide hst'
        replace hset := hide hset
        replace hs' := hide hs'
        clear hst hq hy sW sk sW'
        replace hz := hide hz
        go_wp2_with fail
        have k1 := cell_later' ((G.fld rfl).cell (j := 0) (v := .int .u64 18446744069414584321) rfl)
        have k2 := cell_later' (G.st.cell (j := 0) (v := .int .u64 s.a) rfl)
        refine Rel.wp_region_later_tail 10 Try.mixed (by kernel_rfl) ?_
        simp only [List.take_succ_cons, List.take_zero, List.drop_succ_cons, List.drop_zero]
        repeat (first | go_big_quiet_step (first | (go_at_call 64; exact Calls.later_of (cU _))) | quiet_step (first | (go_at_call 64; exact Calls.later_of (cU _))))
        refine wpQuiet_nil ?_
        intro w3 hb3
        replace hb3 := below_of_later hb3
        replace G := G.mono hb3
        have d0 := G.own.cell (j := i) hlt
        have df := G.own.free i
        have c0 := G.st.cell (j := 0) (v := .int .u64 s.a) rfl; have c1 := G.st.cell (j := 1) (v := .int .u64 s.b) rfl; have c2 := G.st.cell (j := 2) (v := .int .u64 s.c) rfl
        have fs := G.st.free
        have G4 := (G.out i y).setA x
        rw [hset.out] at G4
        clear k1 k2 hb3 G cU
        go_wp2_with fail
        refine name_calls fun W4 hW4 => ?_
        rw [← hW4] at G4
        clear hW4 d0 df c0 c1 c2 fs
        refine (cP W4).mono ?_
        rintro e w5 ⟨rfl, hb5⟩
        replace G4 := G4.mono hb5
        clear hb5 cP
        have c0 := G4.st.cell (j := 0) rfl; have c1 := G4.st.cell (j := 1) rfl; have c2 := G4.st.cell (j := 2) rfl
        have fs := G4.st.free
        have G5 := G4.set3 q
        clear G4
        go_wp2
        go_roundw
        case rel => exact ⟨i + 1, by omega, by go_num, by rw [hst'.out]; exact G5⟩
        case measure => simp [intOf]; omega
      · have hm : (i : Int) % 2 = 0 := by omega
        have hmt : (i : Int).tmod 2 = 0 := by rw [Int.tmod_eq_emod_of_nonneg (by omega)]; exact hm
        have hlst : ((i : Int) == (n : Int) - 1) = false := by simp; omega
        unfold cnext ccip at hst
        rw [if_neg (by omega), hz.1] at hst
        rw [hz.1] at hset
        obtain ⟨y, hy⟩ : ∃ y, y = cout false s 0 x := ⟨_, rfl⟩
        have hyb := cout_bd false s 0 x
        rw [← hy] at hset hyb
        have sk := getk_bd sW 0
        have cU : ∀ W : World, Calls Try.prog 64 #[.agg #[.int .u64 18446744069414584321], .int .u64 x, .int .u64 s.a] W fun e w' => e = .returned (.int .u64 y) ∧ Below W.heap.size W w' := fun W => by
          rw [hy]; exact Sub_any big x s.a W x0 x1 sk.1 sk.2
        have hst' : cst n false (xs : List Int) s0 (i + 1) = ⟨x, s.b, s.c⟩ := by rw [hst]; rfl
        replace hst' := hide hst'
        replace hset := hide hset
        clear hst hy sW sk
        replace hz := hide hz
        go_wp2_with fail
        have k1 := cell_later' ((G.fld rfl).cell (j := 0) (v := .int .u64 18446744069414584321) rfl)
        have k2 := cell_later' (G.st.cell (j := 0) (v := .int .u64 s.a) rfl)
        refine Rel.wp_region_later_tail 10 Try.mixed (by kernel_rfl) ?_
        simp only [List.take_succ_cons, List.take_zero, List.drop_succ_cons, List.drop_zero]
        repeat (first | go_big_quiet_step (first | (go_at_call 64; exact Calls.later_of (cU _))) | quiet_step (first | (go_at_call 64; exact Calls.later_of (cU _))))
        refine wpQuiet_nil ?_
        intro w3 hb3
        replace hb3 := below_of_later hb3
        replace G := G.mono hb3
        have d0 := G.own.cell (j := i) hlt
        have df := G.own.free i
        have c0 := G.st.cell (j := 0) (v := .int .u64 s.a) rfl; have c1 := G.st.cell (j := 1) (v := .int .u64 s.b) rfl; have c2 := G.st.cell (j := 2) (v := .int .u64 s.c) rfl
        have fs := G.st.free
        have G4 := (G.out i y).setA x
        rw [hset.out, ← hst'.out] at G4
        clear k1 k2 hb3 G cU hst'
        go_wp2
        go_roundw
        case rel => exact ⟨i + 1, by omega, by go_num, G4⟩
        case measure => simp [intOf]; omega
    · obtain rfl : i = n := by omega
      rw [fillL_full] at G
      have k2 := cell_later' (G.st.cell (j := 0) rfl)
      have Go := G.own
      have Gb := G.b
      clear G
      go_wp2_with fail
      refine wp_region_later Try.mixed (by kernel_rfl) ?_
      repeat (first | go_big_quiet_step (first | fail) | quiet_step (first | fail))
      refine wpQuiet_nil ?_
      intro w3 hb3
      replace hb3 := below_of_later hb3
      go_wp2
      go_ret2
      exact ⟨_, rfl, Go.mono hb3, below2 Gb hb3⟩


/-- What Open returns. -/
def RetOpen (w : World) (l : List Int) (b : Bool) (e : Ending) (w' : World) : Prop := ∃ v, e = .returned (.tuple #[v, .bool b]) ∧ Own w' w.heap.size 22 .u64 v l ∧ Below w.heap.size w w'

theorem AllW.take {xs : List Int} (h : AllW xs) (n : Nat) : AllW (xs.take n) := fun x hx => h x (List.mem_of_mem_take hx)
theorem Sl.take {w : World} {k : IntKind} {a : Option Addr} {xs : List Int} (h : Sl w k a xs) (n : Nat) : Sl w k a (xs.take n) := fun h0 => by
  rw [List.length_take] at h0
  obtain ⟨b, off, e, hb, hc⟩ := h (by omega)
  refine ⟨b, off, e, hb, fun i hi => ?_⟩
  rw [List.length_take] at hi
  rw [hc i (by omega)]
  simp only [List.getD_eq_getElem?_getD]
  rw [List.getElem?_take_of_lt (by omega)]

set_option maxHeartbeats 1000000 in
theorem Open_any (key nonce : Int) (ad : Option Addr) (c : Nat) (xs : List Int) (w : World) (k0 : 0 ≤ key) (k1 : key < 18446744073709551616) (g0 : 0 ≤ nonce) (g1 : nonce < 18446744073709551616) (hs : Sl w .u64 ad xs) (hw : AllW xs) (hl : xs.length < 1099511627776) (hlc : xs.length ≤ c) :
    Calls Try.prog 54 #[.int .u64 key, .int .u64 nonce, .slice ad xs.length c] w (RetOpen w (open_ key nonce xs) (openOk key nonce xs)) := by
  by_cases h0 : xs.length = 0
  · have h1 : ((xs.length : Int) == 0) = true := by rw [h0]; rfl
    have ho : openOk key nonce xs = false := by
      have : xs = [] := List.eq_nil_of_length_eq_zero h0
      subst this; rfl
    have ho2 : open_ key nonce xs = [] := by unfold open_; rw [ho]; rfl
    rw [ho, ho2]
    clear ho ho2 k1 g1
    replace h0 := hide h0
    go_enter Try.func54, Try.ntmps54
    go_wp2
    go_ret2
    exact ⟨_, rfl, Own.nil _ _ _ _, Below.refl _ _⟩
  · have h1 : ((xs.length : Int) == 0) = false := by rw [beq_eq_false_iff_ne]; omega
    have cE := elements_any key nonce ad c xs w hs hl
    by_cases he : elB key nonce xs = true
    · rw [he] at cE
      obtain ⟨m, hm⟩ : ∃ m, xs.length = m + 1 := ⟨xs.length - 1, by omega⟩
      have hlt : (xs.take m).length = m := by rw [List.length_take]; omega
      have cD := fun (W : World) hs => decrypt_any key nonce ad c (xs.take m) W k0 k1 g0 g1 hs (hw.take m) (by omega)
      rw [hlt] at cD
      have hemp : xs.isEmpty = false := by cases xs with | nil => simp at h0 | cons _ _ => rfl
      have ho : openOk key nonce xs = decide (cTag false key nonce (xs.take m) = xs.getD m 0) := by
        unfold openOk
        rw [he, hemp, hm, Nat.add_sub_cancel]
        simp
      have ho2 : open_ key nonce xs = if decide (cTag false key nonce (xs.take m) = xs.getD m 0) then cOut false key nonce (xs.take m) else [] := by
        unfold open_
        rw [ho, hm, Nat.add_sub_cancel]
      rw [ho, ho2]
      have hx := hw.get (show m < xs.length by omega)
      obtain ⟨b, off, rfl, _, hc⟩ := hs.get (show m < xs.length by omega)
      obtain ⟨x, hx'⟩ : ∃ x, x = xs.getD m 0 := ⟨_, rfl⟩
      rw [← hx'] at hc hx ⊢
      obtain ⟨t, ht⟩ : ∃ t, t = cTag false key nonce (xs.take m) := ⟨_, rfl⟩
      rw [← ht] at cD ⊢
      obtain ⟨l, hl'⟩ : ∃ l, l = cOut false key nonce (xs.take m) := ⟨_, rfl⟩
      rw [← hl'] at cD ⊢
      have hmc : (m : Int) + 1 - 1 = m := by omega
      have hm40 : m < 1099511627775 := by omega
      have hmcap : m ≤ c := by omega
      rw [hm] at h1 cE ⊢
      replace hs := (hs.take m)
      clear ho ho2 ht hl' hx' hlt hw he hemp h0 hlc
      replace hm := hide hm
      by_cases hxt : t = x
      · have hd : decide (t = x) = true := by simpa using hxt
        rw [hd]
        have hne : (t != x) = false := by simpa using hxt
        replace hxt := hide hxt
        go_enter Try.func54, Try.ntmps54
        go_wp2_with fail
        refine cE.mono ?_
        rintro e w1 ⟨rfl, hb1⟩
        replace hc := cell_below hb1 hc
        replace hs := hs.mono hb1
        clear cE
        go_wp2_with fail
        refine (cD _ hs).mono ?_
        rintro e w2 ⟨v, rfl, hown, hb2⟩
        replace hc := cell_below hb2 hc
        replace hown := hown.low hb1.size
        replace hb2 := below2 hb1 hb2
        clear cD hb1 hs hd
        go_wp2
        go_ret2
        exact ⟨_, rfl, hown, hb2⟩
      · have hd : decide (t = x) = false := by simpa using hxt
        rw [hd]
        have hne : (t != x) = true := by simpa using hxt
        replace hxt := hide hxt
        go_enter Try.func54, Try.ntmps54
        go_wp2_with fail
        refine cE.mono ?_
        rintro e w1 ⟨rfl, hb1⟩
        replace hc := cell_below hb1 hc
        replace hs := hs.mono hb1
        clear cE
        go_wp2_with fail
        refine (cD _ hs).mono ?_
        rintro e w2 ⟨v, rfl, hown, hb2⟩
        replace hc := cell_below hb2 hc
        replace hown := hown.low hb1.size
        replace hb2 := below2 hb1 hb2
        clear cD hb1 hs hd
        go_wp2
        go_ret2
        exact ⟨_, rfl, Own.nil _ _ _ _, hb2⟩
    · replace he : elB key nonce xs = false := by simpa using he
      rw [he] at cE
      have ho : openOk key nonce xs = false := by unfold openOk; rw [he]; simp
      have ho2 : open_ key nonce xs = [] := by unfold open_; rw [ho]; rfl
      rw [ho, ho2]
      clear ho ho2 k1 g1 he
      replace h0 := hide h0
      go_enter Try.func54, Try.ntmps54
      go_wp2_with fail
      refine cE.mono ?_
      rintro e w1 ⟨rfl, hb1⟩
      clear cE
      go_wp2
      go_ret2
      exact ⟨_, rfl, Own.nil _ _ _ _, hb1⟩

set_option maxHeartbeats 1000000 in
theorem Tag_any (key nonce : Int) (ad : Option Addr) (c : Nat) (xs : List Int) (w : World) (k0 : 0 ≤ key) (k1 : key < 18446744073709551616) (g0 : 0 ≤ nonce) (g1 : nonce < 18446744073709551616) (hs : Sl w .u64 ad xs) (hw : AllW xs) (hl : xs.length < 1099511627776) :
    Calls Try.prog 57 #[.int .u64 key, .int .u64 nonce, .slice ad xs.length c] w fun e w' => e = .returned (.int .u64 (tag_ key nonce xs)) ∧ Below w.heap.size w w' := by
  have cE := elements_any key nonce ad c xs w hs hl
  have cD := fun (W : World) hs => decrypt_any key nonce ad c xs W k0 k1 g0 g1 hs hw hl
  obtain ⟨R, hR⟩ : ∃ R, R = tag_ key nonce xs := ⟨_, rfl⟩
  rw [← hR]
  unfold tag_ at hR
  by_cases he : elB key nonce xs = true
  · rw [he] at cE hR
    replace hR : R = cTag false key nonce xs := hR
    rw [← hR] at cD
    clear hR k1 g1 he
    go_enter Try.func57, Try.ntmps57
    go_wp2_with fail
    refine cE.mono ?_
    rintro e w1 ⟨rfl, hb1⟩
    clear cE
    go_wp2_with fail
    refine (cD _ (hs.mono hb1)).mono ?_
    rintro e w2 ⟨v, rfl, hown, hb2⟩
    clear cD
    go_wp2
    go_ret
    exact ⟨rfl, below2 hb1 hb2⟩
  · replace he : elB key nonce xs = false := by simpa using he
    rw [he] at cE hR
    replace hR := hide (show R = 0 from hR)
    clear k1 g1 he cD
    go_enter Try.func57, Try.ntmps57
    go_wp2_with fail
    refine cE.mono ?_
    rintro e w1 ⟨rfl, hb1⟩
    clear cE
    go_wp2
    go_ret
    exact ⟨ret_int hR.out.symm, hb1⟩

end Go.Proofs.Ytaklpdhhcnnclaa
