/- AssignGadgets: a circuit of products, tests for zero and choices, without requirements, is satisfied by all inputs. -/
import Derived.Test.YtlflkddgdbdebaaCircAB
import Derived.Test.YtlflkddgdbdebaaCircN
import Derived.Test.YtlflkddgdbdebaaGadS
import Derived.Test.YtlflkddgdbdebaaFrame
import Derived.Test.YtlflkddgdbdebaaSeg
namespace Go.Proofs.Ytlflkddgdbdebaa
open Go.ChangeShapes Go.WideShapes Go.ChangeAt Go.RowKit
namespace assignGadgets

/-- The known primes. -/
def primes : List Int := [17, 97, 193, 257, 12289, 65537, 18446744069414584321]
theorem Known_any (w : World) : Calls Try.prog 51 #[] w fun e w' => ∃ b, e = .returned (.slice (some ⟨b, 0, none⟩) 7 7) ∧ Blk w' b #[.int .u64 17, .int .u64 97, .int .u64 193, .int .u64 257, .int .u64 12289, .int .u64 65537, .int .u64 18446744069414584321] 22 ∧ Below w.heap.size w w' := by
  go_enter Try.func51, Try.ntmps51
  go_wp2
  go_ret
  exact ⟨_, rfl, Blk.newAt rfl, (Below.refl _ _).alloc (Nat.le_refl _) _⟩
theorem prime_vld : ∀ i, i < 7 → vld (primes.getD i 0) = true := by
  intro i hi
  have : i = 0 ∨ i = 1 ∨ i = 2 ∨ i = 3 ∨ i = 4 ∨ i = 5 ∨ i = 6 := by omega
  rcases this with rfl | rfl | rfl | rfl | rfl | rfl | rfl <;> rfl
theorem Prime_any (k : Int) (w : World) (hk : 0 ≤ k ∧ k < 256) : Calls Try.prog 25 #[.int .u8 k] w fun e w' => ∃ p, e = .returned (.int .u64 p) ∧ vld p = true ∧ Below w.heap.size w w' := by
  have hm := mod_lt' (show (0 : Int) < 7 by decide) k
  obtain ⟨i, hi⟩ : ∃ i : Nat, (i : Int) = k % 7 := ⟨(k % 7).toNat, by omega⟩
  have hi7 : i < 7 := by omega
  have hit : (k % 7).toNat = i := by omega
  have hv := prime_vld i hi7
  have cK := Known_any w
  replace hit := hide hit
  replace hi := hide hi
  replace hv := hide hv
  go_enter Try.func25, Try.ntmps25
  go_wp2_with fail
  refine cK.mono ?_
  rintro e w1 ⟨b, rfl, g, hb⟩
  have he : w1.cell? ⟨b, (k % 7).toNat, none⟩ = some (.int .u64 (primes.getD i 0)) := by
    rw [hit.out]
    have : i = 0 ∨ i = 1 ∨ i = 2 ∨ i = 3 ∨ i = 4 ∨ i = 5 ∨ i = 6 := by omega
    rcases this with rfl | rfl | rfl | rfl | rfl | rfl | rfl <;> exact g.cell rfl
  generalize primes.getD i 0 = p at *
  clear cK g
  go_wp2
  go_ret
  exact ⟨p, rfl, hv.out, hb⟩

/-- The invariant of the circuit under way, on values. -/
structure AG (p : Int) (I : List Int) (S : St) (VL : List Lin) (k : Nat) : Prop where
  wf : Wf S I
  sat : Sat S I
  pp : S.p = p
  pub : S.pub = 1
  bd : Bd S (12 + 5 * (k : Int))
  lin : ∀ x ∈ VL, LinIn p 0 S.vars x
  len : 2 ≤ VL.length ∧ VL.length ≤ 12 + k
theorem AG.v {p : Int} {I : List Int} {S : St} {VL : List Lin} {k : Nat} (h : AG p I S VL k) : vld S.p = true := h.wf.v
theorem AG.lens {p : Int} {I : List Int} {S : St} {VL : List Lin} {k : Nat} (h : AG p I S VL k) (hk : k ≤ 20) {x : Lin} (hx : x ∈ VL) : x.length ≤ 200 := by
  have h1 := h.bd.v
  have := (h.lin x hx).len h1.1
  omega
theorem AG.step {p : Int} {I : List Int} {S S' : St} {VL : List Lin} {k : Nat} {z : Lin} (h : AG p I S VL k) (e : Ext S S' I) (hs : Sat S' I ↔ Sat S I) (hb : Bd S' (12 + 5 * ((k + 1 : Nat) : Int))) (hz : LinIn p 0 S'.vars z) : AG p I S' (VL ++ [z]) (k + 1) :=
  ⟨e.wf, hs.2 h.sat, by rw [e.p, h.pp], by rw [e.pub, h.pub], hb, fun x hx => by
    rcases List.mem_append.1 hx with h1 | h1
    · exact (h.lin x h1).up e.le
    · rw [List.mem_singleton] at h1; subst h1; exact hz, by rw [List.length_append]; have := h.len; simp; omega⟩
theorem AG.get {p : Int} {I : List Int} {S : St} {VL : List Lin} {k : Nat} (h : AG p I S VL k) {x : Lin} (hx : x ∈ VL) : LinIn S.p 0 S.vars x := by rw [h.pp]; exact h.lin x hx
theorem AG.mul {p : Int} {I : List Int} {S : St} {VL : List Lin} {k : Nat} (h : AG p I S VL k) {x y : Lin} (hx : x ∈ VL) (hy : y ∈ VL) : AG p I (gMul S x y) (VL ++ [nv S]) (k + 1) := by
  obtain ⟨e, s, _, l⟩ := mul_ext h.wf (h.get hx) (h.get hy)
  rw [h.pp] at l
  exact h.step e s (h.bd.mul.up (by omega)) l
theorem AG.isZero {p : Int} {I : List Int} {S : St} {VL : List Lin} {k : Nat} (h : AG p I S VL k) {x : Lin} (hx : x ∈ VL) : AG p I (gIsZero S x).1 (VL ++ [(gIsZero S x).2]) (k + 1) := by
  obtain ⟨e, s, _, l⟩ := isZero_ext h.wf (h.get hx)
  rw [h.pp] at l
  exact h.step e s (h.bd.isZero.up (by omega)) l
theorem AG.equal {p : Int} {I : List Int} {S : St} {VL : List Lin} {k : Nat} (h : AG p I S VL k) {x y : Lin} (hx : x ∈ VL) (hy : y ∈ VL) : AG p I (gEqual S x y).1 (VL ++ [(gEqual S x y).2]) (k + 1) := by
  obtain ⟨e, s, _, l⟩ := equal_ext h.wf (h.get hx) (h.get hy)
  rw [h.pp] at l
  exact h.step e s (show Bd (gIsZero S (subL S.p x y)).1 _ from h.bd.isZero.up (by omega)) l
theorem AG.select {p : Int} {I : List Int} {S : St} {VL : List Lin} {k : Nat} (h : AG p I S VL k) {c x y : Lin} (hc : c ∈ VL) (hx : x ∈ VL) (hy : y ∈ VL) : AG p I (gSelect S c x y).1 (VL ++ [(gSelect S c x y).2]) (k + 1) := by
  obtain ⟨e, s, _, l⟩ := select_ext h.wf (h.get hc) (h.get hx) (h.get hy)
  rw [h.pp] at l
  exact h.step e s (show Bd (gMul S c (subL S.p x y)) _ from h.bd.mul.up (by omega)) l
theorem AG.add {p : Int} {I : List Int} {S : St} {VL : List Lin} {k : Nat} (h : AG p I S VL k) {x y : Lin} (n : Int) (hx : x ∈ VL) (hy : y ∈ VL) : AG p I S (VL ++ [addP p x (addP p [] y n) 1]) (k + 1) := by
  have hv := h.v
  rw [h.pp] at hv
  exact h.step (Ext.refl h.wf) Iff.rfl (h.bd.up (by omega)) (LinIn.add hv (h.lin x hx) (LinIn.add hv (LinIn.nil ..) (h.lin y hy)))

/-- What Satisfy returns of it. -/
theorem sat_all {p pub vars sec : Int} {S : St} {i0 : Int} {J : List Int} {R : List Rw} {H : List Hn} (wf : Wf S (i0 :: J)) (sat : Sat S (i0 :: J)) (hp : S.p = p) (hpub : S.pub = 1) (e1 : S.pub = pub) (e2 : S.vars = vars) (e3 : S.sec = sec) (hv : vars ≤ 65536) (hr : S.R.length ≤ 16384) (eR : R.map Rw.val = S.R) (eH : H.map Hn.val = S.H) :
    cirOk p pub vars R sec H = true ∧ satE p pub vars R sec H [i0] J = 0 ∧ ((satL p pub vars R sec H [i0] J).length : Int) = vars := by
  subst e1 e2 e3 hp
  have hC := cir_of wf hv hr eR eH
  obtain ⟨q1, q2, q3⟩ := wf.ps
  have hb := wf.i
  have hI : inpOk S.p S.pub S.sec [i0] J = true := decide_eq_true ⟨by rw [hpub]; rfl, by rw [List.length_cons] at q3; omega, fun i hi => by
    have : i = 0 := by simpa using hi
    subst this
    exact (hb i0 (List.mem_cons_self ..)).2, fun i hi => (hb _ (List.mem_cons_of_mem _ (getD_mem' hi 0))).2⟩
  have hk : runOk S.p S.pub S.vars R S.sec H [i0] J = true := by unfold runOk; rw [hC, hI]; rfl
  have hf : runH S.p (1 :: ([i0] ++ J)) H = fin S (i0 :: J) := by rw [runH_val, eH]; rfl
  have hL : runL S.p S.pub S.vars R S.sec H [i0] J = fin S (i0 :: J) := by unfold runL; rw [if_pos hk, hf]
  have hlen := wf.fin_len
  have hT : tblOk S.p S.pub S.vars R = true := (cir_bd hC).1
  have hA : asnOk S.p S.vars (fin S (i0 :: J)) = true := decide_eq_true ⟨hlen, by
    have := fin_head S (i0 :: J)
    unfold gv at this
    rw [if_pos ⟨by omega, by have := wf.pos; omega⟩] at this
    exact this, fun i hi => ?_⟩
  · have hs : satOk S.p S.pub S.vars R (runL S.p S.pub S.vars R S.sec H [i0] J) = true := by
      unfold satOk
      rw [hL, hT, hA, ← hf]
      have := (sat_of (S := S) (I := i0 :: J) eR eH).2 sat
      rw [show ([i0] ++ J) = i0 :: J from rfl, this]
      rfl
    refine ⟨hC, ?_, ?_⟩
    · unfold satE; rw [if_pos hk, if_pos hs]
    · unfold satL; rw [hk, hs, hL]; exact hlen
  · have : ∀ (H : List Hint4) (W : List Int), (∀ x ∈ W, x < S.p) → ∀ x ∈ run4 S.p W H, x < S.p := by
      intro H
      unfold run4
      induction H with
      | nil => exact fun W h => h
      | cons h H ih =>
        intro W hW
        rw [List.foldl_cons]
        refine ih _ fun x hx => ?_
        rcases List.mem_append.1 hx with h1 | h1
        · exact hW x h1
        · rw [List.mem_singleton] at h1; subst h1; exact (hv4_bds wf.v W h).2
    refine this _ _ (fun x hx => ?_) _ (getD_mem' hi 0)
    rcases List.mem_cons.1 hx with h1 | h1
    · have := vld_pos wf.v; omega
    · exact (hb x h1).2
theorem KX.ownI {X : TypeId → Prop} {w w' : World} {base b0 : Nat} {E : TypeId} {kk : IntKind} {v : Value} {xs : List Int} (k : KX X base w w') (hX : ¬ X E) (h : Own w b0 E kk v xs) : Own w' b0 E kk v xs := by
  rcases h.form with ⟨rfl, rfl⟩ | ⟨g, cap, cur, rfl, g1, g2, g3, g4, g5, g6⟩
  · exact Own.nil _ _ _ _
  · exact Own.of_blk g1 (k.typ g cur E g2 hX) g3 g4 g5 g6
theorem KX.grewI {X : TypeId → Prop} {w w' : World} {base : Nat} {T : TypeId} {kk : IntKind} {v v' : Value} {xs : List Int} (ho : Own w base T kk v xs) (hg : Grew w w' v v') (hX : X T) (hb : base ≤ w.heap.size) : KX X base w w' :=
  ⟨hg.below (Below.refl _ _) ho (Nat.le_refl _) hb, fun _ _ _ g h => hg.blk g (own_neq ho g (fun e => h (e ▸ hX)))⟩
theorem bld_cells {w : World} {base b : Nat} {S : St} {A : Nat → Prop} (h : Bld w base b S A) : ∃ cs, Blk w b cs 86 ∧ cs[0]? = some (.int .u64 S.p) ∧ cs[2]? = some (.int .i64 S.pub) ∧ cs[5]? = some (.int .i64 S.sec) := by
  obtain ⟨vr, R, vh, H, h⟩ := h
  exact ⟨_, h.blk, rfl, rfl, rfl⟩
def XU (T : TypeId) : Prop := T = 22
theorem xlnU : ¬ XLn 22 := by unfold XLn; decide
def inL (k : Nat) : List Lin := (List.range k).map fun (i : Nat) => [(1 + (i : Int), 1)]
theorem inL_succ (k : Nat) : inL (k + 1) = inL k ++ [[(1 + (k : Int), 1)]] := by
  unfold inL
  rw [List.range_succ, List.map_append]
  rfl
/-- The first loop. -/
structure L1 (w wr : World) (b : Nat) (S : St) (v10 v11 : Value) (I : List Int) (k : Nat) : Prop where
  below : Below w.heap.size w wr
  bld : Bld wr w.heap.size b S
  own : Own wr w.heap.size 22 .u64 v10 (I.take k)
  ls : ∃ Ls, OwnG lcL wr w.heap.size 40 v11 Ls ∧ (∀ s ∈ Ls, LinT wr s) ∧ Hid (Ls.map Lc.l = inL k)
/-- The second loop. -/
structure G2 (w wr : World) (b g : Nat) (cur : Array Value) (v11 : Value) (p : Int) (I : List Int) (S : St) (Ls : List Lc) (k : Nat) : Prop where
  below : Below w.heap.size w wr
  bld : Bld wr w.heap.size b S
  gI : Blk wr g cur 22
  ow : OwnG lcL wr w.heap.size 40 v11 Ls
  ls : ∀ s ∈ Ls, LinT wr s
  ag : Hid (AG p I S (Ls.map Lc.l) k)
theorem G2.mono {w wr w2 : World} {b g : Nat} {cur : Array Value} {v11 : Value} {p : Int} {I : List Int} {S : St} {Ls : List Lc} {k : Nat} (h : G2 w wr b g cur v11 p I S Ls k) (hb : Below wr.heap.size wr w2) : G2 w w2 b g cur v11 p I S Ls k :=
  ⟨below2 h.below hb, h.bld.mono hb, h.gI.mono hb, h.ow.mono hb, fun s hs => (h.ls s hs).mono hb, h.ag⟩
/-- A gadget's result is appended. -/
theorem G2.push {w w5 w6 w7 w' : World} {b g : Nat} {cur : Array Value} {v11 v' : Value} {p : Int} {I : List Int} {S S' : St} {Ls : List Lc} {s : Lc} {k : Nat} (h : G2 w w5 b g cur v11 p I S Ls k) (kk : Kept w.heap.size w5 w6) (hB : Bld w6 w.heap.size b S') (hs : LinT w6 s)
    (hag : AG p I S' (Ls.map Lc.l ++ [s.l]) (k + 1)) (h7 : Below w6.heap.size w6 w7) (hg : Grew w7 w' v11 v') (own' : OwnG lcL w' w.heap.size 40 v' (Ls ++ [s])) : G2 w w' b g cur v' p I S' (Ls ++ [s]) (k + 1) := by
  have hB6 := h.below.trans kk.below
  have ow7 := (kk.ownG h.ow (by decide) (by decide) (by decide)).mono h7
  have kx : KX XLn w.heap.size w6 w' := (KX.of_below h7 hB6.size).trans (KX.grew ow7 hg xln1 (by have := hB6.size; have := h7.size; omega))
  exact ⟨hB6.trans kx.below, kx.bld xlnR xlnH xlnB xlnT hB, kx.typ _ _ _ (kk.typ _ _ _ h.gI (by decide) (by decide) (by decide)) xlnU, own', fun q hq => by
    rcases List.mem_append.1 hq with h1 | h1
    · exact kx.lin xlnT (kk.lin (h.ls q h1))
    · rw [List.mem_singleton] at h1; subst h1; exact kx.lin xlnT hs, hide (by rw [List.map_append]; exact hag)⟩

set_option maxRecDepth 10000 in
set_option maxHeartbeats 64000000 in
theorem walk (k : Int) (oa : Option Addr) (oc : Nat) (ops : List Int) (la : Option Addr) (lc : Nat) (l : List Int) (w : World) (hk : (Lit.int .u8 k).wf = true) (SO : SlP w .u8 oa oc ops) (SL : SlP w .u64 la lc l) :
    Calls Try.prog 9 #[.int .u8 k, .slice oa ops.length oc, .slice la l.length lc] w fun e w' => e = .returned (.bool true) ∧ Below w.heap.size w w' := by
  have hk2 : 0 ≤ k ∧ k < 256 := by
    simp [Lit.wf, IntKind.min, IntKind.max, IntKind.signed, IntKind.bits] at hk
    omega
  have hl := SL.sl
  have ho := SO.sl
  have hA := wfs_u64 SL.wf
  have hO : ∀ x ∈ ops, 0 ≤ x ∧ x < 256 := fun x hx => by
    have := SO.wf x hx
    simp [Lit.wf, IntKind.min, IntKind.max, IntKind.signed, IntKind.bits] at this
    omega
  have z1 : ops.length ≤ 9223372036854775807 := by
    have h1 := SO.le
    have h2 := SO.max
    simp only [maxLen] at h2
    omega
  have z2 : l.length ≤ 9223372036854775807 := by
    have h1 := SL.le
    have h2 := SL.max
    simp only [maxLen] at h2
    omega
  clear SO SL hk
  replace hO := hide hO
  by_cases b1 : 20 < ops.length
  · have b1' : (20 : Int) < ops.length := by omega
    go_enter Try.func9, Try.ntmps9
    go_wp2_with fail
    refine (awake22 w).mono ?_
    rintro e w1 ⟨rfl, hb1⟩
    go_wp2
    go_ret
    exact ⟨rfl, hb1⟩
  have b1' : (ops.length : Int) ≤ 20 := by omega
  by_cases b2 : l.length < 2
  · have b2' : (l.length : Int) < 2 := by omega
    go_enter Try.func9, Try.ntmps9
    go_wp2_with fail
    refine (awake22 w).mono ?_
    rintro e w1 ⟨rfl, hb1⟩
    go_wp2
    go_ret
    exact ⟨rfl, hb1⟩
  have b2' : (2 : Int) ≤ l.length := by omega
  by_cases b3 : 10 < l.length
  · have b3' : (10 : Int) < l.length := by omega
    go_enter Try.func9, Try.ntmps9
    go_wp2_with fail
    refine (awake22 w).mono ?_
    rintro e w1 ⟨rfl, hb1⟩
    go_wp2
    go_ret
    exact ⟨rfl, hb1⟩
  have b3' : (l.length : Int) ≤ 10 := by omega
  have cN := fun (p : Int) (hv : vld p = true) W => New20_ok p 1 ((l.length : Int) - 1) W hv ⟨by omega, by omega, by omega, by omega⟩
  go_enter Try.func9, Try.ntmps9
  go_wp2_with fail
  refine (awake22 w).mono ?_
  rintro e w1 ⟨rfl, hb1⟩
  go_wp2_with fail
  refine (Prime_any k w1 hk2).mono ?_
  rintro e w2 ⟨p, rfl, hv, hb2⟩
  have hp := vld_pos hv
  go_wp2_with fail
  refine (cN p hv w2).mono ?_
  rintro e w3 ⟨b, rfl, hB3, hb3⟩
  have hB := below2 (below2 hb1 hb2) hb3
  replace hB3 := hB3.low (b0 := w.heap.size) (by have := hb1.size; have := hb2.size; omega)
  clear cN hb1 hb2 hb3
  obtain ⟨sec, hsec⟩ : ∃ sec, sec = (l.length : Int) - 1 := ⟨_, rfl⟩
  rw [← hsec] at hB3
  have hsb : 1 ≤ sec ∧ sec ≤ 9 := by omega
  replace hsec := hide hsec
  obtain ⟨I, hI⟩ : ∃ I, I = l.map (· % p) := ⟨_, rfl⟩
  have hIl : I.length = l.length := by rw [hI, List.length_map]
  have hIb : Hid (∀ x ∈ I, 0 ≤ x ∧ x < p) := hide fun x hx => by
    rw [hI] at hx
    obtain ⟨y, _, rfl⟩ := List.mem_map.1 hx
    exact mod_lt' (by omega) y
  have hIn : Hid (∀ j, j < l.length → I.take (j + 1) = I.take j ++ [l.getD j 0 % p]) := hide fun j hj => by
    rw [take_succ_getD I 0 (by rw [hIl]; exact hj), hI, getD_map' (· % p) l j 0 0 hj]
  replace hI := hide hI
  replace hIl := hide hIl
  go_wp2_with fail
  go_loopw [10, 11, 54] (fun t10 t11 t54 wr => ∃ j : Nat, j ≤ l.length ∧ t54 = .int .i64 j ∧ L1 w wr b (newS p 1 sec) t10 t11 I j) (fun _ _ t54 _ => l.length - (intOf t54).toNat)
  case atStart => exact ⟨0, Nat.zero_le _, rfl, ⟨hB, hB3, Own.nil _ _ _ _, ⟨[], OwnG.nil _ _ _ _, (fun s hs => by cases hs), hide rfl⟩⟩⟩
  case round =>
    clear hB hB3
    obtain ⟨j, hj, rfl, D⟩ := hrel
    by_cases hlt : j < l.length
    · have hlt' : (j : Int) < l.length := by omega
      obtain ⟨q2, off2, rfl, _, hd⟩ := (hl.mono D.below).get hlt
      have hx := hA.get hlt
      have htk := hIn.out j hlt
      generalize l.getD j 0 = x at *
      obtain ⟨Ls, ow, hls, els⟩ := D.ls
      have hD := D.own
      have hDb := D.below
      have hDB := D.bld
      have hll : Hid (Ls.length ≤ 10) := hide (by
        have := congrArg List.length els.out
        simp [inL] at this
        omega)
      have htl : Hid ((I.take j).length ≤ 10) := hide (by rw [List.length_take]; omega)
      have hbz := hDb.size
      replace htk := hide htk
      clear D
      go_wp2_with (at_builtin; refine wpList_appX _ 22 .u64 (x % p) rfl _ _ 32 rfl w.heap.size 8 Try.underlying32 Try.infoU64 (by decide) _ _ _ rfl rfl (by simp) hD (by have := htl.out; omega) hbz ?_; intro v9 w9 own9 hg9; refine Hold.mk ?_)
      refine Hold.go ?_
      have kx : KX XU w.heap.size wr w9 := KX.grewI hD hg9 rfl hbz
      replace ow := kx.own (by unfold XU; decide) ow
      replace hls := fun s h => kx.lin (by unfold XU; decide) (hls s h)
      replace hDB := kx.bld (by unfold XU; decide) (by unfold XU; decide) (by unfold XU; decide) (by unfold XU; decide) hDB
      replace hDb := hDb.trans kx.below
      rw [← htk.out] at own9
      clear hd kx hg9 hD htl htk hx
      obtain ⟨cs, gb, h0, h2, h5⟩ := bld_cells hDB
      have cI := Input20_any b cs _ p 1 sec j w9 gb h0 h2 h5 hv ⟨by decide, by omega, by omega⟩ (wfI ⟨by omega, by omega⟩)
      rw [if_pos ⟨by omega, by have := hsec.out; omega⟩] at cI
      go_wp2_with fail
      refine cI.mono ?_
      rintro e w10 ⟨s, rfl, es, ls, hb10⟩
      replace ow := ow.mono hb10
      replace hls := fun s h => (hls s h).mono hb10
      replace hDB := hDB.mono hb10
      replace hDb := below2 hDb hb10
      replace own9 := own9.mono hb10
      have hbz2 := hDb.size
      clear cI gb h0 h2 h5 cs hb10
      go_wp2_with (at_builtin; refine wpList_appG _ lcL Ls [s] rfl _ _ 61 rfl w.heap.size 40 (.slice none 0 0) 24 Try.underlying61 Try.infoLc rfl (by decide) _ 1 1 (some ⟨w10.heap.size, 0, none⟩) rfl rfl rfl (ow.alloc _) (SlG.one (Blk.new _ _ _) rfl) (by have := hll.out; simp; omega) (by simp; omega) ?_; intro v' w' own' hg'; refine Hold.mk ?_)
      refine Hold.go ?_
      have kx : KX XLn w.heap.size w10 w' := (KX.of_below ((Below.refl _ _).alloc (Nat.le_refl _) _) hbz2).trans (KX.grew (ow.alloc _) hg' xln1 (by simp; omega))
      have DD : L1 w w' b (newS p 1 sec) v9 v' I (j + 1) := ⟨hDb.trans kx.below, kx.bld xlnR xlnH xlnB xlnT hDB, KX.ownI kx xlnU own9, ⟨Ls ++ [s], own', fun q hq => by
        rcases List.mem_append.1 hq with h1 | h1
        · exact kx.lin xlnT (hls q h1)
        · rw [List.mem_singleton] at h1; subst h1; exact kx.lin xlnT ls, hide (by rw [List.map_append, els.out, inL_succ, ← es.out]; rfl)⟩⟩
      clear ow hls hDB hDb own9 own' hg' kx ls els es hll
      go_wp2
      go_roundw
      case rel => exact ⟨j + 1, by omega, by go_num, DD⟩
      case measure => simp [intOf]; omega
    · obtain rfl : j = l.length := by omega
      obtain ⟨Ls, ow, hls, els⟩ := D.ls
      have hD := D.own
      rw [← hIl.out, List.take_length] at hD
      have hAG : AG p I (newS p 1 sec) (Ls.map Lc.l) 0 := by
        have hq : 0 ≤ (1 : Int) ∧ 0 ≤ sec ∧ (I.length : Int) = 1 + sec := ⟨by decide, by omega, by rw [hIl.out, hsec.out]; omega⟩
        obtain ⟨wf, st⟩ := new_wf (p := p) (pub := 1) (sec := sec) (I := I) hv hIb.out hq
        refine ⟨wf, st, rfl, rfl, ⟨⟨by show 0 ≤ 1 + 1 + sec; omega, by show 1 + 1 + sec ≤ _; simp; omega⟩, by simp [newS], by simp [newS]⟩, fun x hx => ?_, ?_⟩
        · rw [els.out] at hx
          unfold inL at hx
          obtain ⟨i, hi, rfl⟩ := List.mem_map.1 hx
          exact (new_in hv hIb.out hq (by rw [hIl.out]; exact List.mem_range.1 hi)).1
        · rw [els.out]; simp [inL]; omega
      rcases hD.form with ⟨_, h0⟩ | ⟨g, cap, cur, rfl, g1, gI, g3, g4, g5, g6⟩
      · have := hIl.out; rw [h0] at this; simp at this; omega
      have hG : G2 w wr b g cur _ p I (newS p 1 sec) Ls 0 := ⟨D.below, D.bld, gI, ow, hls, hide hAG⟩
      clear D hD ow hls els hAG gI hIn hl hA
      go_wp2_with fail
      obtain ⟨wA, hwA⟩ : ∃ wA, wA = wr := ⟨_, rfl⟩
      subst hwA
      go_loopw [11, 74] (fun t11 t74 wr => ∃ j : Nat, j ≤ ops.length ∧ t74 = .int .i64 j ∧ ∃ S Ls, G2 w wr b g cur t11 p I S Ls j) (fun _ t74 _ => ops.length - (intOf t74).toNat)
      case atStart => exact ⟨0, Nat.zero_le _, rfl, _, _, hG⟩
      case round =>
        clear hG
        obtain ⟨j, hj, rfl, S, Ls, D⟩ := hrel
        by_cases hlt : j < ops.length
        · have hlt' : (j : Int) < ops.length := by omega
          obtain ⟨q2, off2, rfl, _, hd⟩ := (ho.mono D.below).get hlt
          have hx := hO.out _ (getD_mem' hlt 0)
          generalize ops.getD j 0 = x at *
          have hag := D.ag.out
          have hL2 : 2 ≤ Ls.length ∧ Ls.length ≤ 32 := by
            have := hag.len
            rw [List.length_map] at this
            omega
          rcases D.ow.form with ⟨_, h0⟩ | ⟨gq, cap2, cur2, rfl, _⟩
          · rw [h0] at hL2; simp at hL2
          have ma := mod_lt' (show (0 : Int) < Ls.length by omega) (x / 8)
          have mb := mod_lt' (show (0 : Int) < Ls.length by omega) (j : Int)
          obtain ⟨a, ha⟩ : ∃ a : Nat, (a : Int) = x / 8 % Ls.length := ⟨(x / 8 % Ls.length).toNat, by omega⟩
          obtain ⟨c, hc⟩ : ∃ c : Nat, (c : Int) = (j : Int) % Ls.length := ⟨((j : Int) % Ls.length).toNat, by omega⟩
          have haL : a < Ls.length := by omega
          have hcL : c < Ls.length := by omega
          have ca := D.ow.cellE (i := a) (j := 0) default haL (by decide) rfl
          have cc := D.ow.cellE (i := c) (j := 0) default hcL (by decide) rfl
          have c0 := D.ow.cellE (i := 0) (j := 0) default (by omega) (by decide) rfl
          rw [show a * lcL.m + 0 = a from by show a * 1 + 0 = a; omega] at ca
          rw [show c * lcL.m + 0 = c from by show c * 1 + 0 = c; omega] at cc
          rw [show 0 * lcL.m + 0 = 0 from rfl] at c0
          have lu := D.ls _ (getD_mem' haL default)
          have lv := D.ls _ (getD_mem' hcL default)
          have l0 := D.ls _ (getD_mem' (show 0 < Ls.length by omega) default)
          have mu := List.mem_map_of_mem (f := Lc.l) (getD_mem' haL default)
          have mv := List.mem_map_of_mem (f := Lc.l) (getD_mem' hcL default)
          have m0 := List.mem_map_of_mem (f := Lc.l) (getD_mem' (show 0 < Ls.length by omega) default)
          generalize Ls.getD a default = u at *
          generalize Ls.getD c default = v at *
          generalize Ls.getD 0 default = s0 at *
          have ca' := cell_later' (show wr.cell? ⟨gq, a, none⟩ = some (.slice u.ad u.l.length u.cap) from ca)
          have cc' := cell_later' (show wr.cell? ⟨gq, c, none⟩ = some (.slice v.ad v.l.length v.cap) from cc)
          have cc0 : wr.cell? ⟨gq, 0, none⟩ = some (.slice s0.ad s0.l.length s0.cap) := c0
          obtain ⟨q, hq⟩ : ∃ q, q = x / 8 := ⟨_, rfl⟩
          have hqb : 0 ≤ q ∧ q < 32 := by omega
          have t1 : x.tdiv 8 = q := by rw [Int.tdiv_eq_ediv_of_nonneg hx.1, hq]
          have t2 : q.tmod (Ls.length : Int) = (a : Int) := by rw [Int.tmod_eq_emod_of_nonneg hqb.1, ha, hq]
          have t3 : (j : Int).tmod (Ls.length : Int) = (c : Int) := by rw [Int.tmod_eq_emod_of_nonneg (by omega), hc]
          have haL' : (a : Int) < Ls.length := by omega
          have hcL' : (c : Int) < Ls.length := by omega
          have zu := hide (hag.lens (by omega) mu)
          have zv := hide (hag.lens (by omega) mv)
          have z0 := hide (hag.lens (by omega) m0)
          have hxm : x % 5 = 0 ∨ x % 5 = 1 ∨ x % 5 = 2 ∨ x % 5 = 3 ∨ x % 5 = 4 := by omega
          replace hxm := hide hxm
          replace ha := hide ha
          replace hc := hide hc
          replace hq := hide hq
          replace hag := hide hag
          replace mu := hide mu
          replace mv := hide mv
          replace m0 := hide m0
          have hLh := hide hL2
          clear ca cc c0 ma mb
          go_wp2_with fail
          refine wp_region_later Try.mixed (by kernel_rfl) ?_
          repeat (first | go_big_quiet_step (first | fail) | quiet_step (first | fail))
          refine wpQuiet_nil ?_
          intro w5 hb5
          replace hb5 := below_of_later hb5
          replace D := D.mono hb5
          replace lu := lu.mono hb5
          replace lv := lv.mono hb5
          replace l0 := l0.mono hb5
          have cc5 := cell_below hb5 cc0
          have hDB := D.bld
          have hbd := hag.out.bd
          have hvS := hag.out.v
          have hBz := D.below.size
          clear t1 t2 t3 ca' cc' cc0 hd hb5
          rcases hxm.out with hm | hm | hm | hm | hm
          · go_wp2_with fail
            refine (Mul20_any w.heap.size b S _ u v w5 hDB hvS hbd (by omega) lu lv (by have := zu.out; omega) (by have := zv.out; omega)).mono ?_
            rintro e w6 ⟨s, rfl, es, hs, hB6, k6⟩
            have ow6 := (k6).ownG D.ow (by decide) (by decide) (by decide)
            have hz6 : w.heap.size ≤ w6.heap.size := (D.below.trans (k6).below).size
            go_wp2_with (at_builtin; refine wpList_appG _ lcL Ls [s] rfl _ _ 61 rfl w.heap.size 40 (.slice none 0 0) 24 Try.underlying61 Try.infoLc rfl (by decide) _ 1 1 (some ⟨w6.heap.size, 0, none⟩) rfl rfl rfl (ow6.alloc _) (SlG.one (Blk.new _ _ _) rfl) (by have := hLh.out; simp; omega) (by simp; omega) ?_; intro v' w' own' hg'; refine Hold.mk ?_)
            refine Hold.go ?_
            have DD := D.push (s := s) (k6) hB6 hs (by rw [es.out]; exact hag.out.mul mu.out mv.out) ((Below.refl _ _).alloc (Nat.le_refl _) _) hg' own'
            clear ow6 own' hg' D lu lv l0 cc5 hDB
            go_wp2
            go_roundw
            case rel => exact ⟨j + 1, by omega, by go_num, _, _, DD⟩
            case measure => simp [intOf]; omega
          · go_wp2_with fail
            refine (IsZero20_any w.heap.size b S _ u w5 hDB hvS hbd (by omega) lu (by have := zu.out; omega)).mono ?_
            rintro e w6 ⟨s, rfl, es, hs, hB6, k6⟩
            have ow6 := (k6).ownG D.ow (by decide) (by decide) (by decide)
            have hz6 : w.heap.size ≤ w6.heap.size := (D.below.trans (k6).below).size
            go_wp2_with (at_builtin; refine wpList_appG _ lcL Ls [s] rfl _ _ 61 rfl w.heap.size 40 (.slice none 0 0) 24 Try.underlying61 Try.infoLc rfl (by decide) _ 1 1 (some ⟨w6.heap.size, 0, none⟩) rfl rfl rfl (ow6.alloc _) (SlG.one (Blk.new _ _ _) rfl) (by have := hLh.out; simp; omega) (by simp; omega) ?_; intro v' w' own' hg'; refine Hold.mk ?_)
            refine Hold.go ?_
            have DD := D.push (s := s) (k6) hB6 hs (by rw [es.out]; exact hag.out.isZero mu.out) ((Below.refl _ _).alloc (Nat.le_refl _) _) hg' own'
            clear ow6 own' hg' D lu lv l0 cc5 hDB
            go_wp2
            go_roundw
            case rel => exact ⟨j + 1, by omega, by go_num, _, _, DD⟩
            case measure => simp [intOf]; omega
          · go_wp2_with fail
            refine (Select20_any w.heap.size b S _ u v s0 w5 hDB hvS hbd (by omega) lu lv l0 (by have := zu.out; omega) (by have := zv.out; omega) (by have := z0.out; omega)).mono ?_
            rintro e w6 ⟨s, rfl, es, hs, hB6, k6⟩
            have ow6 := (k6).ownG D.ow (by decide) (by decide) (by decide)
            have hz6 : w.heap.size ≤ w6.heap.size := (D.below.trans (k6).below).size
            go_wp2_with (at_builtin; refine wpList_appG _ lcL Ls [s] rfl _ _ 61 rfl w.heap.size 40 (.slice none 0 0) 24 Try.underlying61 Try.infoLc rfl (by decide) _ 1 1 (some ⟨w6.heap.size, 0, none⟩) rfl rfl rfl (ow6.alloc _) (SlG.one (Blk.new _ _ _) rfl) (by have := hLh.out; simp; omega) (by simp; omega) ?_; intro v' w' own' hg'; refine Hold.mk ?_)
            refine Hold.go ?_
            have DD := D.push (s := s) (k6) hB6 hs (by rw [es.out]; exact hag.out.select mu.out mv.out m0.out) ((Below.refl _ _).alloc (Nat.le_refl _) _) hg' own'
            clear ow6 own' hg' D lu lv l0 cc5 hDB
            go_wp2
            go_roundw
            case rel => exact ⟨j + 1, by omega, by go_num, _, _, DD⟩
            case measure => simp [intOf]; omega
          · go_wp2_with fail
            refine (Equal20_any w.heap.size b S _ u v w5 hDB hvS hbd (by omega) lu lv (by have := zu.out; omega) (by have := zv.out; omega)).mono ?_
            rintro e w6 ⟨s, rfl, es, hs, hB6, k6⟩
            have ow6 := (k6).ownG D.ow (by decide) (by decide) (by decide)
            have hz6 : w.heap.size ≤ w6.heap.size := (D.below.trans (k6).below).size
            go_wp2_with (at_builtin; refine wpList_appG _ lcL Ls [s] rfl _ _ 61 rfl w.heap.size 40 (.slice none 0 0) 24 Try.underlying61 Try.infoLc rfl (by decide) _ 1 1 (some ⟨w6.heap.size, 0, none⟩) rfl rfl rfl (ow6.alloc _) (SlG.one (Blk.new _ _ _) rfl) (by have := hLh.out; simp; omega) (by simp; omega) ?_; intro v' w' own' hg'; refine Hold.mk ?_)
            refine Hold.go ?_
            have DD := D.push (s := s) (k6) hB6 hs (by rw [es.out]; exact hag.out.equal mu.out mv.out) ((Below.refl _ _).alloc (Nat.le_refl _) _) hg' own'
            clear ow6 own' hg' D lu lv l0 cc5 hDB
            go_wp2
            go_roundw
            case rel => exact ⟨j + 1, by omega, by go_num, _, _, DD⟩
            case measure => simp [intOf]; omega
          · go_wp2_with fail
            refine (gScale_any p (j : Int) v w5 lv.ok (fun _ => by have := zv.out; omega) ⟨by omega, by omega⟩).mono ?_
            rintro e w6 ⟨r, rfl, er, hr, hb6⟩
            have hrl := addP_len p [] v.l j
            have cA := gAdd_any p u r w6 (lu.mono hb6).ok hr.ok (fun _ => by have := zu.out; have := zv.out; rw [er.out]; simp at hrl; omega)
            clear hrl
            go_wp2_with fail
            refine cA.mono ?_
            rintro e w7 ⟨s, rfl, es, hs, hb7⟩
            rw [er.out] at es
            have k7 := Kept.of_below (below2 hb6 hb7) hBz
            have ow6 := (k7).ownG D.ow (by decide) (by decide) (by decide)
            have hz6 : w.heap.size ≤ w7.heap.size := (D.below.trans (k7).below).size
            go_wp2_with (at_builtin; refine wpList_appG _ lcL Ls [s] rfl _ _ 61 rfl w.heap.size 40 (.slice none 0 0) 24 Try.underlying61 Try.infoLc rfl (by decide) _ 1 1 (some ⟨w7.heap.size, 0, none⟩) rfl rfl rfl (ow6.alloc _) (SlG.one (Blk.new _ _ _) rfl) (by have := hLh.out; simp; omega) (by simp; omega) ?_; intro v' w' own' hg'; refine Hold.mk ?_)
            refine Hold.go ?_
            have DD := D.push (s := s) (k7) (hDB.mono (below2 hb6 hb7)) hs (by rw [es.out]; exact hag.out.add (j : Int) mu.out mv.out) ((Below.refl _ _).alloc (Nat.le_refl _) _) hg' own'
            clear ow6 own' hg' D lu lv l0 cc5 hDB
            go_wp2
            go_roundw
            case rel => exact ⟨j + 1, by omega, by go_num, _, _, DD⟩
            case measure => simp [intOf]; omega
        · obtain rfl : j = ops.length := by omega
          have hag := D.ag.out
          obtain ⟨i0, J, hIJ⟩ : ∃ i0 J, I = i0 :: J := by
            cases I with
            | nil => have := hIl.out; simp at this; omega
            | cons a t => exact ⟨a, t, rfl⟩
          subst hIJ
          have own10 : Own wr w.heap.size 22 .u64 (.slice (some ⟨g, 0, none⟩) (i0 :: J).length cap) (i0 :: J) := Own.of_blk g1 D.gI g3 g4 g5 g6
          have su : ∀ W, Below wr.heap.size wr W → Sl W .u64 (some ⟨g, 0, none⟩) [i0] := fun W hb _ => ⟨g, 0, rfl, (D.gI.mono hb).lt, fun i hi => by
            have h0 : i = 0 := by simpa using hi
            subst h0
            exact (own10.mono hb).cell (j := 0) (by simp)⟩
          have sj : ∀ W, Below wr.heap.size wr W → Sl W .u64 (some ⟨g, 1, none⟩) J := fun W hb _ => ⟨g, 1, rfl, (D.gI.mono hb).lt, fun i hi => by
            have h1 := (own10.mono hb).cell (j := i + 1) (by simp; omega)
            rw [List.getD_cons_succ, Nat.add_comm] at h1
            exact h1⟩
          have hJl : Hid (J.length + 1 = l.length) := hide (by have := hIl.out; simpa using this)
          have hA1 : AllW [i0] := fun x hx => by
            have := hIb.out x (by rw [List.mem_singleton] at hx; subst hx; exact List.mem_cons_self ..)
            omega
          have hA2 : AllW J := fun x hx => by
            have := hIb.out x (List.mem_cons_of_mem _ hx)
            omega
          obtain ⟨p', pub, vars, R0, sec, H0⟩ := S
          obtain rfl : p = p' := hag.pp.symm
          have hbv := hag.bd.v
          have hbr := hag.bd.r
          have hbh := hag.bd.h
          simp only at hbv hbr hbh
          have hq := hag.wf.ps
          simp only at hq
          have hv6 : vars ≤ 65536 := by omega
          have hsw : (Lit.int .i64 sec).wf = true := wfI ⟨by omega, by have := hag.wf.len; simp only at this; omega⟩
          have hcirc := Circuit20_any w.heap.size b ⟨p, pub, vars, R0, sec, H0⟩ wr D.bld (by show R0.length ≤ _; omega) (by show H0.length ≤ _; omega) (hag.wf.szR (by show vars ≤ _; omega)) (hag.wf.szH (by show vars ≤ _; omega))
          have hDw := D.below
          have hg3 : J.length + 1 ≤ cap := by simpa using g3
          have hc2 : 2 ≤ cap := by have := hJl.out; omega
          have hc3 : ¬ cap = 1 := by omega
          have hc4 : ¬ cap ≤ 1 := by omega
          have hc5 : 0 < cap - 1 := by omega
          replace hag := hide hag
          clear D own10 g1 g3 g4 g5 g6 hIl hIb
          go_wp2_with fail
          refine hcirc.mono ?_
          rintro e w6 ⟨ra, rc, R, ha, hc, H, he, hR, hH, eR, eH, hb6⟩
          have he2 : e = .returned (.agg #[.int .u64 p, .int .i64 pub, .int .i64 vars, .slice ra R.length rc, .int .i64 sec, .slice ha H.length hc]) := he
          subst he2
          obtain ⟨hC, hE, hLn⟩ := sat_all (p := p) (pub := pub) (vars := vars) (sec := sec) (R := R) (H := H) hag.out.wf hag.out.sat rfl hag.out.pub rfl rfl rfl hv6 (by show R0.length ≤ _; omega) eR.out eH.out
          have cS := fun c1 c2 W h1 h2 h3 h4 => aSat_any p pub vars ra R rc sec ha H hc (some ⟨g, 0, none⟩) c1 [i0] (some ⟨g, 1, none⟩) c2 J W h1 h2 hsw h3 h4 hA1 hA2
          have cV := fun W h1 h2 => aCValid_any p pub vars ra R rc sec ha H hc W h1 h2 hsw
          rw [hE] at cS
          rw [hC] at cV
          generalize satL p pub vars R sec H [i0] J = L at *
          have hLb : ((L.length : Int) == vars) = true := by simpa using hLn
          replace hLn := hide hLn
          clear hC hE hcirc hag eR eH hq hbv hbr hbh
          go_wp2_with fail
          refine name_world fun w7 hN => ?_
          have gC : Blk w7 w6.heap.size #[.int .u64 p, .int .i64 pub, .int .i64 vars, .slice ra R.length rc, .int .i64 sec, .slice ha H.length hc] 28 := by rw [hN]; exact Blk.newAt rfl
          have hb7 : Below w6.heap.size w6 w7 := by rw [hN]; exact (Below.refl _ _).alloc (Nat.le_refl _) _
          clear hN
          replace hR := hR.mono hb7
          replace hH := hH.mono hb7
          have hb67 := below2 hb6 hb7
          have k0 := cell_later' (gC.cell (j := 0) (v := .int .u64 p) rfl); have k1 := cell_later' (gC.cell (j := 1) (v := .int .i64 pub) rfl); have k2 := cell_later' (gC.cell (j := 2) (v := .int .i64 vars) rfl); have k3 := cell_later' (gC.cell (j := 3) (v := .slice ra R.length rc) rfl); have k4 := cell_later' (gC.cell (j := 4) (v := .int .i64 sec) rfl); have k5 := cell_later' (gC.cell (j := 5) (v := .slice ha H.length hc) rfl)
          refine Rel.any_of_region Try.mixed ?_
          refine Rel.any_seg_k 6 [] (by kernel_rfl) fun K hK => ?_
          refine Rel.any_later_tail1 5 (by kernel_rfl) ?_
          simp only [List.take_succ_cons, List.take_zero, List.drop_succ_cons, List.drop_zero]
          repeat (first | go_big_quiet_step (first | fail) | quiet_step (first | fail))
          refine wpQuiet_nil ?_
          intro w8 hb8
          replace hb8 := below_of_later hb8
          replace hR := hR.mono hb8
          replace hH := hH.mono hb8
          replace gC := gC.mono hb8
          replace hb67 := below2 hb67 hb8
          clear k0 k1 k2 k3 k4 k5 hb8 hb7 hb6
          go_wp2_with fail
          refine (cS _ _ w8 hR hH (su w8 hb67) (sj w8 hb67)).mono ?_
          rintro e w9 ⟨v19, rfl, own19, hb9⟩
          obtain ⟨a19, c19, rfl, _⟩ := Own.sl own19
          replace hR := hR.mono hb9
          replace hH := hH.mono hb9
          replace gC := gC.mono hb9
          replace hb67 := below2 hb67 hb9
          clear hb9 own19 cS su sj
          go_wp2_with fail
          refine hK _ _ (by kernel_rfl) ?_
          clear hK K
          refine Rel.any_later_tail 10 (by kernel_rfl) ?_
          simp only [Rel.seg2]
          repeat (first | simp only [List.take_succ_cons] | simp only [List.take_zero] | simp only [List.drop_succ_cons] | simp only [List.drop_zero] | simp only [Nat.reduceAdd] | simp only [Nat.reduceLT] | simp only [if_true] | simp only [if_false] | simp only [Rel.quietOp] | simp only [Rel.laterOp] | simp only [List.contains_nil] | simp only [List.contains_cons] | simp only [Nat.reduceBEq] | simp only [Bool.or_false] | simp only [Bool.false_or] | simp only [Bool.or_self] | simp only [Bool.true_or] | simp only [Bool.or_true] | simp only [Bool.false_eq_true])
          repeat (first | go_big_quiet_step (first | fail) | quiet_step (first | fail))
          refine wpQuiet_nil ?_
          intro w10 hb10
          replace hb10 := below_of_later hb10
          replace hR := hR.mono hb10
          replace hH := hH.mono hb10
          replace gC := gC.mono hb10
          replace hb67 := below2 hb67 hb10
          clear hb10
          have k0 := gC.cell (j := 0) (v := .int .u64 p) rfl; have k1 := gC.cell (j := 1) (v := .int .i64 pub) rfl; have k2 := gC.cell (j := 2) (v := .int .i64 vars) rfl; have k3 := gC.cell (j := 3) (v := .slice ra R.length rc) rfl; have k4 := gC.cell (j := 4) (v := .int .i64 sec) rfl; have k5 := gC.cell (j := 5) (v := .slice ha H.length hc) rfl
          go_wp2_with fail
          refine (cV w10 hR hH).mono ?_
          rintro e w11 ⟨rfl, hb11⟩
          replace gC := gC.mono hb11
          replace hb67 := below2 hb67 hb11
          clear k0 k1 k2 k3 k4 k5 cV hb11
          have k0 := gC.cell (j := 0) (v := .int .u64 p) rfl; have k1 := gC.cell (j := 1) (v := .int .i64 pub) rfl; have k2 := gC.cell (j := 2) (v := .int .i64 vars) rfl; have k3 := gC.cell (j := 3) (v := .slice ra R.length rc) rfl; have k4 := gC.cell (j := 4) (v := .int .i64 sec) rfl; have k5 := gC.cell (j := 5) (v := .slice ha H.length hc) rfl
          go_wp2
          go_ret
          exact ⟨rfl, below2 hDw hb67⟩

set_option maxRecDepth 100000 in
theorem lifted (os : Os) (started : os.Started) (H : Type) (enc : TypeId × Value → H) :
    ReturnsInHanded {} Try.checked os 9 .any (Rows.assignGadgetsSpec.pre6 enc Try.prog Try.f9 Rows.assignGadgetsRow.domain false) (Rows.assignGadgetsSpec.post enc Try.prog Try.f9 false true false false) := by
  refine returnsInHanded_of_change (C := Try.checked) own started (by kernel_rfl) Try.func9
    (ChangeSpec.witness6 (enc := enc) (C := Try.checked) false ⟨#[], #[.int .u8 0, .slice none 0 0, .slice none 0 0], []⟩ 8 (by kernel_rfl) (by kernel_rfl) (by kernel_rfl) (by kernel_rfl)) ?_
  intro W base args ds gs before hval0 hW hcnd _
  have hval : ∀ (j : Nat) t v, Try.f9.params[j]? = some t → args[j]? = some v → Value.okWide Try.prog W .any base t v := hval0
  have hW' := hW
  obtain ⟨p, q, hA0, hV, rfl, hfz, hnd⟩ := hW
  have hA : DataW.TrodAll enc Try.prog W 0 (fun _ => true) true Try.f9.params.toList args.toList ds p := hA0
  rw [Try.params9] at hA hval
  obtain ⟨v0, vs0, d0, ds0, p0, q0, hargs, rfl, rfl, h0, r0⟩ := trodAll_cons hA
  obtain ⟨v1, vs1, d1, ds1, p1, q1, rfl, rfl, rfl, h1, r1⟩ := trodAll_cons r0
  obtain ⟨v2, vs2, d2, ds2, p2, q2, rfl, rfl, rfl, h2, r2⟩ := trodAll_cons r1
  obtain ⟨rfl, rfl, rfl⟩ := trodAll_nil r2
  obtain rfl : args = #[v0, v1, v2] := by cases args; simp_all
  obtain ⟨rfl, rfl⟩ := trodVars_none hV
  have k1 := h1
  have k2 := h2
  obtain ⟨a0, rfl, rfl, rfl, w0⟩ := open_int Try.underlying5 (hval 0 5 v0 rfl rfl) h0
  obtain ⟨ad1, cap1, xs1, rfl, S1⟩ := open_slice Try.underlying56 Try.underlying5 (by kernel_rfl) h1 (hval 1 56 v1 rfl rfl) (fun x hx => hW'.lt x (by simp [hx]))
  obtain ⟨ad2, cap2, xs2, rfl, S2⟩ := open_slice Try.underlying32 Try.underlying22 (by kernel_rfl) h2 (hval 2 32 v2 rfl rfl) (fun x hx => hW'.lt x (by simp [hx]))
  clear hA0 hval0
  simp only [List.append_nil] at hW'
  refine (walk a0 ad1 cap1 xs1 ad2 cap2 xs2 W w0 S1 S2).mono fun e W' ⟨he, hg⟩ => ?_
  subst he
  exact ⟨_, rfl, post_of_below (pv := []) hW' (fun _ _ _ => (trodAll_cons_mk (shut_bool Try.underlying4 _) trodAll_mk0))
    (fun sp _ hsp => by subst hsp; exact (trodAll_cons_mk (shut_int Try.underlying5 w0) (trodAll_cons_mk (Below.trod Try.laidOut (by kernel_rfl) (of_decide_eq_true (by kernel_rfl)) k1 hg (fun x hx => hW'.lt x (by simp [hx]))) (trodAll_cons_mk (Below.trod Try.laidOut (by kernel_rfl) (of_decide_eq_true (by kernel_rfl)) k2 hg (fun x hx => hW'.lt x (by simp [hx]))) trodAll_mk0)))) (fun _ _ => rfl) (by simp) hg⟩

theorem closed : joinedFacts Try.prog 9 Try.f9 Rows.assignGadgetsSpec Rows.assignGadgetsRow = true := by
  unfold joinedFacts
  rw [Try.mayEnter, Try.liftsFinal, Try.make]
  kernel_rfl

theorem proved : Rows.AssignGadgetsSaid :=
  OpenClaim.holds_of_wide 9 Try.f9 rfl rfl rfl rfl rfl rfl rfl ⟨rfl, rfl, rfl, rfl, rfl⟩ rfl rfl rfl rfl rfl (by kernel_rfl) Try.func9 closed
    (of_decide_eq_true (by kernel_rfl)) (by unfold Func.isWrapper; first | (rw [if_pos (by decide +kernel)]; kernel_rfl) | (rw [if_neg (by decide +kernel)]; exact ⟨rfl, rfl⟩))
    (fun os started H enc _ => lifted os started H enc)
#print axioms proved
end assignGadgets
end Go.Proofs.Ytlflkddgdbdebaa
