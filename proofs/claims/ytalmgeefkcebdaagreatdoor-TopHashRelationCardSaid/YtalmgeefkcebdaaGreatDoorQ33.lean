/- compiler: what a program of one check becomes, on values; value; Compile. -/
import Derived.Test.YtalmgeefkcebdaaGreatDoorQ32
namespace Go.Proofs.YtalmgeefkcebdaaGreatDoor
open Go.RowKit

/-- The circuit behind an expression, and its combination. -/
def gTr (N : List (ByteArray × Lin)) : Tr → St → St × Lin
  | .nm s, S => (S, (getN N s).getD [])
  | .bin op val l r, S =>
    let a := gTr N l S
    let b := gTr N r a.1
    if op = 11 then (gMul b.1 a.2 b.2, nv b.1) else if op = 14 then gEqual b.1 a.2 b.2 else gHash b.1 val [a.2, b.2]
/-- The rows that are counted for it. -/
def rTr (p : Int) : Tr → Int
  | .nm _ => 0
  | .bin op _ l r => rTr p l + rTr p r + (if op = 11 then 1 else if op = 14 then 3 else 24 * xrows p)
def cTr : Tr → Int
  | .nm _ => 0
  | .bin _ _ l r => cTr l + cTr r + 1000
def Tr.gok (N : List (ByteArray × Lin)) : Tr → Prop
  | .nm s => ∃ l, getN N s = some l ∧ l.length ≤ 20000
  | .bin op val l r => (op = 11 ∨ op = 14 ∨ op = 6) ∧ (0 ≤ val ∧ val < 18446744073709551616) ∧ l.gok N ∧ r.gok N
theorem cTr_pos : ∀ t : Tr, 0 ≤ cTr t
  | .nm _ => Int.le_refl _
  | .bin _ _ l r => by
    have h1 := cTr_pos l
    have h2 := cTr_pos r
    show 0 ≤ cTr l + cTr r + 1000
    omega
theorem rTr_pos (p : Int) : ∀ t : Tr, 0 ≤ rTr p t
  | .nm _ => Int.le_refl _
  | .bin op _ l r => by
    have h1 := rTr_pos p l
    have h2 := rTr_pos p r
    have h3 := xrows_bd p
    show 0 ≤ rTr p l + rTr p r + (if op = 11 then 1 else if op = 14 then 3 else 24 * xrows p)
    split
    · omega
    · split <;> omega
theorem gEqual_len (S : St) (x y : Lin) : (gEqual S x y).2.length ≤ 2 := by
  show (addP S.p [(0, 1)] (nv (gHint S 2 (subL S.p x y) [] 0)) (fneg S.p 1)).length ≤ 2
  exact Nat.le_trans (addP_len _ _ _ _) (by decide : ([(0, 1)] : Lin).length + 1 ≤ 2)
theorem gHash_len2 (S : St) (label : Int) (x y : Lin) : (gHash S label [x, y]).2.length ≤ 20000 := by
  have h : Sm3 4 (gHashN S.p [x, y] (hashM [x, y].length) (S, hash0 S.p label [x, y].length)).2 := gHashN_len ⟨Nat.zero_le _, Nat.zero_le _, Nat.le_trans (keepT_len _) (by omega)⟩ _
  have h1 := h.1
  unfold gHash
  exact Nat.le_trans h1 (by omega)
theorem hashM2 (x y : Lin) : hashM [x, y].length = 1 := by
  rw [show [x, y].length = 2 from rfl]
  decide
theorem gHash_bd2 {S : St} {n : Int} (label : Int) (x y : Lin) (h : Bd S n) : Bd (gHash S label [x, y]).1 (n + 192) := by
  have h3 := gHashN_bd (p := S.p) (VL := [x, y]) (q := (S, hash0 S.p label [x, y].length)) h 1
  have e : (gHash S label [x, y]).1 = (gHashN S.p [x, y] 1 (S, hash0 S.p label [x, y].length)).1 := by unfold gHash; rw [hashM2]
  rw [e]
  refine Bd.up h3 ?_
  show n + 192 * ((1 : Nat) : Int) ≤ n + 192
  omega
theorem gTr_len {N : List (ByteArray × Lin)} : ∀ (t : Tr) (S : St), t.gok N → (gTr N t S).2.length ≤ 20000
  | .nm s, S, h => by
    obtain ⟨l, h1, h2⟩ := h
    show ((getN N s).getD []).length ≤ 20000
    rw [h1]; exact h2
  | .bin op val l r, S, _ => by
    show (if op = 11 then (gMul (gTr N r (gTr N l S).1).1 (gTr N l S).2 (gTr N r (gTr N l S).1).2, nv (gTr N r (gTr N l S).1).1) else if op = 14 then gEqual (gTr N r (gTr N l S).1).1 (gTr N l S).2 (gTr N r (gTr N l S).1).2 else gHash (gTr N r (gTr N l S).1).1 val [(gTr N l S).2, (gTr N r (gTr N l S).1).2]).2.length ≤ 20000
    split
    · exact (by omega : (1 : Nat) ≤ 20000)
    · split
      · exact Nat.le_trans (gEqual_len _ _ _) (by omega)
      · exact gHash_len2 _ _ _ _
theorem gTr_bd {N : List (ByteArray × Lin)} : ∀ (t : Tr) (S : St) (n : Int), Bd S n → Bd (gTr N t S).1 (n + cTr t)
  | .nm _, _, _, h => h.up (by show _ ≤ _ + (0 : Int); omega)
  | .bin op val l r, S, n, h => by
    have h1 := gTr_bd (N := N) l S n h
    have h2 := gTr_bd (N := N) r (gTr N l S).1 _ h1
    have e : n + cTr (.bin op val l r) = n + cTr l + cTr r + 1000 := by show n + (cTr l + cTr r + 1000) = _; omega
    rw [e]
    show Bd (if op = 11 then (gMul (gTr N r (gTr N l S).1).1 (gTr N l S).2 (gTr N r (gTr N l S).1).2, nv (gTr N r (gTr N l S).1).1) else if op = 14 then gEqual (gTr N r (gTr N l S).1).1 (gTr N l S).2 (gTr N r (gTr N l S).1).2 else gHash (gTr N r (gTr N l S).1).1 val [(gTr N l S).2, (gTr N r (gTr N l S).1).2]).1 _
    split
    · exact h2.mul.up (by omega)
    · split
      · exact h2.isZero.up (by omega)
      · exact (gHash_bd2 val _ _ h2).up (by omega)
/-- The value of an expression. -/
def tv (p : Int) (σ : ByteArray → Int) : Tr → Int
  | .nm s => σ s
  | .bin op val l r => if op = 11 then tv p σ l * tv p σ r % p else if op = 14 then (if tv p σ l = tv p σ r then 1 else 0) else (absorb p val [tv p σ l, tv p σ r]).a
theorem gTr_ext {N : List (ByteArray × Lin)} {I : List Int} (σ : ByteArray → Int) : ∀ (t : Tr) (S : St), t.gok N → Wf S I → (∀ s l, getN N s = some l → LinIn S.p 0 S.vars l ∧ V S I l = σ s) →
    Ext S (gTr N t S).1 I ∧ (Sat (gTr N t S).1 I ↔ Sat S I) ∧ V (gTr N t S).1 I (gTr N t S).2 = tv S.p σ t ∧ LinIn S.p 0 (gTr N t S).1.vars (gTr N t S).2
  | .nm s, S, hg, hw, hN => by
    obtain ⟨l, h1, _⟩ := hg
    have h2 := hN s l h1
    have e : gTr N (.nm s) S = (S, l) := by show (S, (getN N s).getD []) = _; rw [h1]; rfl
    rw [e]
    exact ⟨Ext.refl hw, Iff.rfl, h2.2, h2.1⟩
  | .bin op val l r, S, hg, hw, hN => by
    obtain ⟨hop, _, hl, hr⟩ := hg
    obtain ⟨e1, s1, v1, l1⟩ := gTr_ext σ l S hl hw hN
    obtain ⟨e2, s2, v2, l2⟩ := gTr_ext σ r (gTr N l S).1 hr e1.wf (fun s L h => ⟨e1.lin (hN s L h).1, by rw [e1.val _ (hN s L h).1]; exact (hN s L h).2⟩)
    have e12 := e1.trans e2
    have s12 := s2.trans s1
    have hp : (gTr N r (gTr N l S).1).1.p = S.p := e12.p
    have lx := e2.lin (x := (gTr N l S).2) (by rw [e1.p]; exact l1)
    have ly : LinIn (gTr N r (gTr N l S).1).1.p 0 (gTr N r (gTr N l S).1).1.vars (gTr N r (gTr N l S).1).2 := by rw [hp, ← e1.p]; exact l2
    have vx : V (gTr N r (gTr N l S).1).1 I (gTr N l S).2 = tv S.p σ l := by rw [e2.val _ (by rw [e1.p]; exact l1), v1]
    have vy : V (gTr N r (gTr N l S).1).1 I (gTr N r (gTr N l S).1).2 = tv S.p σ r := by rw [v2, e1.p]
    show Ext S (if op = 11 then (gMul (gTr N r (gTr N l S).1).1 (gTr N l S).2 (gTr N r (gTr N l S).1).2, nv (gTr N r (gTr N l S).1).1) else if op = 14 then gEqual (gTr N r (gTr N l S).1).1 (gTr N l S).2 (gTr N r (gTr N l S).1).2 else gHash (gTr N r (gTr N l S).1).1 val [(gTr N l S).2, (gTr N r (gTr N l S).1).2]).1 I ∧ (Sat (if op = 11 then (gMul (gTr N r (gTr N l S).1).1 (gTr N l S).2 (gTr N r (gTr N l S).1).2, nv (gTr N r (gTr N l S).1).1) else if op = 14 then gEqual (gTr N r (gTr N l S).1).1 (gTr N l S).2 (gTr N r (gTr N l S).1).2 else gHash (gTr N r (gTr N l S).1).1 val [(gTr N l S).2, (gTr N r (gTr N l S).1).2]).1 I ↔ Sat S I) ∧ V (if op = 11 then (gMul (gTr N r (gTr N l S).1).1 (gTr N l S).2 (gTr N r (gTr N l S).1).2, nv (gTr N r (gTr N l S).1).1) else if op = 14 then gEqual (gTr N r (gTr N l S).1).1 (gTr N l S).2 (gTr N r (gTr N l S).1).2 else gHash (gTr N r (gTr N l S).1).1 val [(gTr N l S).2, (gTr N r (gTr N l S).1).2]).1 I (if op = 11 then (gMul (gTr N r (gTr N l S).1).1 (gTr N l S).2 (gTr N r (gTr N l S).1).2, nv (gTr N r (gTr N l S).1).1) else if op = 14 then gEqual (gTr N r (gTr N l S).1).1 (gTr N l S).2 (gTr N r (gTr N l S).1).2 else gHash (gTr N r (gTr N l S).1).1 val [(gTr N l S).2, (gTr N r (gTr N l S).1).2]).2 = (if op = 11 then tv S.p σ l * tv S.p σ r % S.p else if op = 14 then (if tv S.p σ l = tv S.p σ r then 1 else 0) else (absorb S.p val [tv S.p σ l, tv S.p σ r]).a) ∧ LinIn S.p 0 (if op = 11 then (gMul (gTr N r (gTr N l S).1).1 (gTr N l S).2 (gTr N r (gTr N l S).1).2, nv (gTr N r (gTr N l S).1).1) else if op = 14 then gEqual (gTr N r (gTr N l S).1).1 (gTr N l S).2 (gTr N r (gTr N l S).1).2 else gHash (gTr N r (gTr N l S).1).1 val [(gTr N l S).2, (gTr N r (gTr N l S).1).2]).1.vars (if op = 11 then (gMul (gTr N r (gTr N l S).1).1 (gTr N l S).2 (gTr N r (gTr N l S).1).2, nv (gTr N r (gTr N l S).1).1) else if op = 14 then gEqual (gTr N r (gTr N l S).1).1 (gTr N l S).2 (gTr N r (gTr N l S).1).2 else gHash (gTr N r (gTr N l S).1).1 val [(gTr N l S).2, (gTr N r (gTr N l S).1).2]).2
    generalize (gTr N r (gTr N l S).1).1 = B at *
    generalize (gTr N r (gTr N l S).1).2 = y at *
    generalize (gTr N l S).2 = x at *
    by_cases h11 : op = 11
    · rw [if_pos h11, if_pos h11]
      obtain ⟨e, s, v, L⟩ := mul_ext e12.wf lx ly
      exact ⟨e12.trans e, s.trans s12, by rw [v, vx, vy, hp], by rw [← hp]; exact L⟩
    · rw [if_neg h11, if_neg h11]
      by_cases h14 : op = 14
      · rw [if_pos h14, if_pos h14]
        obtain ⟨e, s, v, L⟩ := equal_ext e12.wf lx ly
        exact ⟨e12.trans e, s.trans s12, by rw [v, vx, vy], by rw [← hp]; exact L⟩
      · rw [if_neg h14, if_neg h14]
        obtain ⟨e, s, v, L⟩ := hash_ext e12.wf val (VL := [x, y]) (fun z hz => by
          rcases List.mem_cons.1 hz with rfl | hz
          · exact lx
          · rcases List.mem_cons.1 hz with rfl | hz
            · exact ly
            · cases hz)
        exact ⟨e12.trans e, s.trans s12, by rw [v, List.map_cons, List.map_cons, List.map_nil, vx, vy, hp], by rw [← hp]; exact L⟩
theorem gTr_p {N : List (ByteArray × Lin)} : ∀ (t : Tr) (S : St), (gTr N t S).1.p = S.p
  | .nm _, _ => rfl
  | .bin op val l r, S => by
    have h1 := gTr_p (N := N) l S
    have h2 := gTr_p (N := N) r (gTr N l S).1
    show (if op = 11 then (gMul (gTr N r (gTr N l S).1).1 (gTr N l S).2 (gTr N r (gTr N l S).1).2, nv (gTr N r (gTr N l S).1).1) else if op = 14 then gEqual (gTr N r (gTr N l S).1).1 (gTr N l S).2 (gTr N r (gTr N l S).1).2 else gHash (gTr N r (gTr N l S).1).1 val [(gTr N l S).2, (gTr N r (gTr N l S).1).2]).1.p = S.p
    split
    · exact h2.trans h1
    · split
      · exact h2.trans h1
      · exact (gHashN_p _ _ _ _).trans (h2.trans h1)
/-- value, of any expression. -/
theorem cval_any {base q b f mm : Nat} {p : Int} {N : List (ByteArray × Lin)} (hv : vld p = true) : ∀ (t : Tr) (S : St) (rows n : Int), t.gok N → S.p = p → Bd S n → n + cTr t ≤ 20000 → 0 ≤ rows → rows + rTr p t ≤ 16000 →
    ∀ (w : World) (P : Nat → Prop) (ev : Ev), Rep w P t ev → CP base w q b p f rows S → NmP w mm N →
    Calls Tryz.prog 44 #[.pointer (some ⟨q, 0, none⟩), evV ev, .map (some mm)] w (RetVl base w q b p f (rows + rTr p t) (gTr N t S).1 (gTr N t S).2)
  | .nm s, S, rows, n, hg, hp, hB, hn, h0, h1, w, P, ev, hR, hC, hm => by
    have hR : ev = ⟨2, 0, s, none, 0, 0⟩ := hR
    subst hR
    obtain ⟨l, hl, _⟩ := hg
    have e : gTr N (.nm s) S = (S, l) := by show (S, (getN N s).getD []) = _; rw [hl]; rfl
    rw [e, show rows + rTr p (.nm s) = rows from Int.add_zero rows]
    exact cval_nm s l hC hm hl
  | .bin op val l r, S, rows, n, hg, hp, hB, hn, h0, h1, w, P, ev, hR, hC, hm => by
    obtain ⟨hop, hval, hl, hr⟩ := hg
    obtain ⟨bb, x, y, rfl, _, g, hRl, hRr⟩ := hR
    have en : cTr (.bin op val l r) = cTr l + cTr r + 1000 := rfl
    have c1 := cTr_pos l
    have c2 := cTr_pos r
    have r1 := rTr_pos p l
    have r2 := rTr_pos p r
    have x1 := xrows_bd p
    have er : rTr p (.bin op val l r) = rTr p l + rTr p r + (if op = 11 then 1 else if op = 14 then 3 else 24 * xrows p) := rfl
    have B1 := gTr_bd (N := N) l S n hB
    have B2 := gTr_bd (N := N) r (gTr N l S).1 _ B1
    have p1 := gTr_p (N := N) l S
    have p2 := gTr_p (N := N) r (gTr N l S).1
    have l1 := gTr_len l S hl
    have l2 := gTr_len r (gTr N l S).1 hr
    have hv2 : vld (gTr N r (gTr N l S).1).1.p = true := by rw [p2, p1, hp]; exact hv
    have q0 : 0 ≤ (if op = 11 then (1 : Int) else if op = 14 then 3 else 24 * xrows p) := by
      split
      · omega
      · split <;> omega
    have cX := fun W (hC : CP base W q b p f rows S) (k : KM base w W) => cval_any (mm := mm) hv l S rows n hl hp hB (by omega) h0 (by omega) W (fun _ => True) x ((hRl.kx k.kx (by unfold XCp; decide)).imp fun _ _ _ => trivial) hC (hm.km k)
    have cY := fun W (hC : CP base W q b p f (rows + rTr p l) (gTr N l S).1) (k : KM base w W) => cval_any (mm := mm) hv r (gTr N l S).1 (rows + rTr p l) (n + cTr l) hr (p1.trans hp) B1 (by omega) (by omega) (by omega) W (fun _ => True) y ((hRr.kx k.kx (by unfold XCp; decide)).imp fun _ _ _ => trivial) hC (hm.km k)
    rcases hop with rfl | rfl | rfl
    · have e : gTr N (.bin 11 val l r) S = (gMul (gTr N r (gTr N l S).1).1 (gTr N l S).2 (gTr N r (gTr N l S).1).2, nv (gTr N r (gTr N l S).1).1) := rfl
      have e2 : rows + rTr p (.bin 11 val l r) = rows + rTr p l + rTr p r + 1 := by rw [er, if_pos rfl]; omega
      rw [e, e2]
      refine cval_bin11 val bb x y hC hm g cX cY (fun W bl a c hC lx ly ex ey gl => ?_)
      have := carith_any (n + cTr l + cTr r) a c hC (by omega) (by omega) hv2 B2 (by omega) lx ly (by rw [ex]; exact l1) (by rw [ey]; exact l2) bl gl
      rw [ex, ey] at this
      exact this
    · have e : gTr N (.bin 14 val l r) S = gEqual (gTr N r (gTr N l S).1).1 (gTr N l S).2 (gTr N r (gTr N l S).1).2 := rfl
      have e2 : rows + rTr p (.bin 14 val l r) = rows + rTr p l + rTr p r + 3 := by rw [er, if_neg (by decide), if_pos rfl]; omega
      rw [e, e2]
      refine cval_bin14 val bb x y hC hm g cX cY (fun W bl a c hC lx ly ex ey gl => ?_)
      have := ctruth_any (n + cTr l + cTr r) a c hC (by omega) (by omega) hv2 B2 (by omega) lx ly (by rw [ex]; exact l1) (by rw [ey]; exact l2) bl gl
      rw [ex, ey] at this
      exact this
    · have e : gTr N (.bin 6 val l r) S = gHash (gTr N r (gTr N l S).1).1 val [(gTr N l S).2, (gTr N r (gTr N l S).1).2] := rfl
      have e2 : rows + rTr p (.bin 6 val l r) = rows + rTr p l + rTr p r + 24 * xrows p := by rw [er, if_neg (by decide), if_neg (by decide)]; omega
      rw [if_neg (by decide), if_neg (by decide)] at er
      rw [e, e2]
      refine cval_bin6 val bb x y hC hm g cX cY (fun W bl a c hC lx ly ex ey gl => ?_)
      have := chash_any (n + cTr l + cTr r) a c hC (by omega) (by omega) hv2 B2 (by omega) lx ly (by rw [ex]; exact l1) (by rw [ey]; exact l2) bl gl val hval (p2.trans (p1.trans hp))
      rw [ex, ey] at this
      exact this

/-- The circuit of a program of one check. -/
def cS (p : Int) (ds : List (Bool × ByteArray)) (t : Tr) : St :=
  gAssert (gTr (inNs (pubN ds) ds ds.length) t (newS p (pubN ds) (secN ds))).1 (gTr (inNs (pubN ds) ds ds.length) t (newS p (pubN ds) (secN ds))).2 (keepT (0, fred p 1))
/-- What the compiler asks of a program. -/
structure CpOk (p : Int) (ds : List (Bool × ByteArray)) (t : Tr) : Prop where
  pg : PgOk ds t
  new : ∀ j, j < ds.length → getN (inNs (pubN ds) ds j) (ds.getD j (false, ⟨#[]⟩)).2 = none
  gok : t.gok (inNs (pubN ds) ds ds.length)
  rows : rTr p t ≤ 15000
  cost : cTr t ≤ 10000
  size : SzR (cS p ds t).R ∧ SzH (cS p ds t).H
def RetCp (w : World) (S : St) (e : Ending) (w' : World) : Prop := ∃ ra rc R ha hc H, e = .returned (.tuple #[.agg #[.int .u64 S.p, .int .i64 S.pub, .int .i64 S.vars, .slice ra R.length rc, .int .i64 S.sec, .slice ha H.length hc], .int .i64 0]) ∧ RowsP w' ra rc R ∧ HintsP w' ha hc H ∧ Hid (R.map Rw.val = S.R) ∧ Hid (H.map Hn.val = S.H) ∧ Below w.heap.size w w'
/-- A circuit's own cells. -/
def cirC (a b c d : Int) (s1 : Option Addr) (n1 c1 : Nat) (s2 : Option Addr) (n2 c2 : Nat) : Array Value := #[.int .u64 a, .int .i64 b, .int .i64 c, .slice s1 n1 c1, .int .i64 d, .slice s2 n2 c2]
def ShC (w : World) (A : Nat) (T : TypeId) : Prop := ∃ a b c d s1 n1 c1 s2 n2 c2, Blk w A (cirC a b c d s1 n1 c1 s2 n2 c2) T
theorem Blk.get {w : World} {b : Nat} {cs : Array Value} {T : TypeId} (h : Blk w b cs T) (j : Nat) : w.cell? ⟨b, j, none⟩ = cs[j]? := by
  unfold Blk at h
  simp [World.cell?, h]
theorem ShC.ss {w : World} {A : Nat} {T : TypeId} (h : ShC w A T) {k : Nat} {s1 s2 : Option Addr} {n1 c1 n2 c2 : Nat} (h1 : w.cell? ⟨A, k, none⟩ = some (.slice s1 n1 c1)) (h2 : w.cell? ⟨A, k + 1, none⟩ = some (.slice s2 n2 c2)) : False := by
  obtain ⟨a, b, c, d, t1, m1, e1, t2, m2, e2, g⟩ := h
  rw [g.get] at h1 h2
  match k, h1, h2 with
  | 0, h1, _ => cases h1
  | 1, h1, _ => cases h1
  | 2, h1, _ => cases h1
  | 3, _, h2 => cases h2
  | 4, h1, _ => cases h1
  | 5, _, h2 => cases h2
  | k + 6, h1, _ =>
    have : (cirC a b c d t1 m1 e1 t2 m2 e2)[k + 6]? = none := Array.getElem?_eq_none (by show 6 ≤ k + 6; omega)
    rw [this] at h1
    cases h1
theorem ShC.iu {w : World} {A : Nat} {T : TypeId} (h : ShC w A T) {k : Nat} {x y : Int} (h1 : w.cell? ⟨A, k, none⟩ = some (.int .i64 x)) (h2 : w.cell? ⟨A, k + 1, none⟩ = some (.int .u64 y)) : False := by
  obtain ⟨a, b, c, d, t1, m1, e1, t2, m2, e2, g⟩ := h
  rw [g.get] at h1 h2
  match k, h1, h2 with
  | 0, h1, _ => cases h1
  | 1, _, h2 => cases h2
  | 2, _, h2 => cases h2
  | 3, h1, _ => cases h1
  | 4, _, h2 => cases h2
  | 5, h1, _ => cases h1
  | k + 6, h1, _ =>
    have : (cirC a b c d t1 m1 e1 t2 m2 e2)[k + 6]? = none := Array.getElem?_eq_none (by show 6 ≤ k + 6; omega)
    rw [this] at h1
    cases h1
section
variable {w : World} {A : Nat} {T : TypeId} {j : Nat} {u : Value}
theorem cell_far {b k : Nat} (hn : b ≠ A) : (w.setCell ⟨A, j, none⟩ u).cell? ⟨b, k, none⟩ = w.cell? ⟨b, k, none⟩ := World.cell?_setCell_far _ _ _ _ (fun e => hn (by simpa using e.symm))
theorem size_setC (w : World) (A j : Nat) (u : Value) : (w.setCell ⟨A, j, none⟩ u).heap.size = w.heap.size := by
  show (w.heap.modify A _).size = _
  simp
theorem LcOk.setC {s : Lc} (h : LcOk w s) (g : ShC w A T) : LcOk (w.setCell ⟨A, j, none⟩ u) s :=
  ⟨fun h0 => by
    obtain ⟨b, off, e, hl, hc⟩ := h.sl h0
    have hn : b ≠ A := fun e => by
      subst e
      exact g.iu (hc 0 h0).1 (hc 0 h0).2
    exact ⟨b, off, e, by rw [size_setC]; exact hl, fun i hi => by rw [cell_far hn, cell_far hn]; exact hc i hi⟩, h.wl, h.le, h.mx⟩
theorem RowsP.setC {ra : Option Addr} {rc : Nat} {R : List Rw} (h : RowsP w ra rc R) (g : ShC w A T) : RowsP (w.setCell ⟨A, j, none⟩ u) ra rc R :=
  ⟨fun h0 => by
    obtain ⟨b, off, e, hl, hc⟩ := h.s h0
    have hn : b ≠ A := fun e => by
      subst e
      exact g.ss (hc 0 h0).1 (hc 0 h0).2.1
    exact ⟨b, off, e, by rw [size_setC]; exact hl, fun i hi => by rw [cell_far hn, cell_far hn, cell_far hn]; exact hc i hi⟩, fun r hr => ⟨(h.ok r hr).1.setC g, (h.ok r hr).2.1.setC g, (h.ok r hr).2.2.setC g⟩, h.le, h.mx, h.nil⟩
theorem HintsP.setC {ra : Option Addr} {rc : Nat} {R : List Hn} (h : HintsP w ra rc R) (g : ShC w A T) : HintsP (w.setCell ⟨A, j, none⟩ u) ra rc R :=
  ⟨fun h0 => by
    obtain ⟨b, off, e, hl, hc⟩ := h.s h0
    have hn : b ≠ A := fun e => by
      subst e
      exact g.ss (hc 0 h0).2.1 (hc 0 h0).2.2.1
    exact ⟨b, off, e, by rw [size_setC]; exact hl, fun i hi => by rw [cell_far hn, cell_far hn, cell_far hn, cell_far hn]; exact hc i hi⟩, fun r hr => ⟨(h.ok r hr).1.setC g, (h.ok r hr).2.1.setC g, (h.ok r hr).2.2⟩, h.le, h.mx, h.nil⟩
end
/-- The six stores of a circuit. -/
def setC6 (w : World) (A : Nat) (a b c d : Int) (s1 : Option Addr) (n1 c1 : Nat) (s2 : Option Addr) (n2 c2 : Nat) : World :=
  (((((w.setCell ⟨A, 0, none⟩ (.int .u64 a)).setCell ⟨A, 1, none⟩ (.int .i64 b)).setCell ⟨A, 2, none⟩ (.int .i64 c)).setCell ⟨A, 3, none⟩ (.slice s1 n1 c1)).setCell ⟨A, 4, none⟩ (.int .i64 d)).setCell ⟨A, 5, none⟩ (.slice s2 n2 c2)
theorem setC6_all {w w0 : World} {A : Nat} {T : TypeId} {a' b' c' d' : Int} {s1' : Option Addr} {n1' c1' : Nat} {s2' : Option Addr} {n2' c2' : Nat} (g : Blk w A (cirC a' b' c' d' s1' n1' c1' s2' n2' c2') T) (a b c d : Int) (s1 : Option Addr) (n1 c1 : Nat) (s2 : Option Addr) (n2 c2 : Nat) (hB : Below w0.heap.size w0 w) (hA : w0.heap.size ≤ A) {R : List Rw} {H : List Hn} (hR : RowsP w s1 c1 R) (hH : HintsP w s2 c2 H) :
    Blk (setC6 w A a b c d s1 n1 c1 s2 n2 c2) A (cirC a b c d s1 n1 c1 s2 n2 c2) T ∧ RowsP (setC6 w A a b c d s1 n1 c1 s2 n2 c2) s1 c1 R ∧ HintsP (setC6 w A a b c d s1 n1 c1 s2 n2 c2) s2 c2 H ∧ Below w0.heap.size w0 (setC6 w A a b c d s1 n1 c1 s2 n2 c2) := by
  have g1 := g.set 0 (.int .u64 a)
  have g2 := g1.set 1 (.int .i64 b)
  have g3 := g2.set 2 (.int .i64 c)
  have g4 := g3.set 3 (.slice s1 n1 c1)
  have g5 := g4.set 4 (.int .i64 d)
  have g6 := g5.set 5 (.slice s2 n2 c2)
  have k0 : ShC w A T := ⟨_, _, _, _, _, _, _, _, _, _, g⟩
  have k1 : ShC _ A T := ⟨_, _, _, _, _, _, _, _, _, _, g1⟩
  have k2 : ShC _ A T := ⟨_, _, _, _, _, _, _, _, _, _, g2⟩
  have k3 : ShC _ A T := ⟨_, _, _, _, _, _, _, _, _, _, g3⟩
  have k4 : ShC _ A T := ⟨_, _, _, _, _, _, _, _, _, _, g4⟩
  have k5 : ShC _ A T := ⟨_, _, _, _, _, _, _, _, _, _, g5⟩
  unfold setC6
  exact ⟨g6, (((((hR.setC k0).setC k1).setC k2).setC k3).setC k4).setC k5, (((((hH.setC k0).setC k1).setC k2).setC k3).setC k4).setC k5, (((((hB.setCell hA _).setCell hA _).setCell hA _).setCell hA _).setCell hA _).setCell hA _⟩
set_option maxRecDepth 10000 in
set_option maxHeartbeats 32000000 in
theorem Compile_any (v : Value) (ds : List (Bool × ByteArray)) (t : Tr) (p : Int) (hv : vld p = true) (o : CpOk p ds t) (w : World) (h : PgP w v ds t) :
    Calls Tryz.prog 7 #[v, .int .u64 p] w (RetCp w (cS p ds t)) := by
  have cC := fun W (hb : Below w.heap.size w W) => Check17_any v ds t o.pg W (h.mono hb)
  have cF := fun W (hb : Below w.heap.size w W) => Fits17_any v ds t o.pg p hv W (h.mono hb)
  have cN := fun W (hb : Below w.heap.size w W) => Inputs17_any v ds t o.pg W (h.mono hb)
  have hmm := @run_makeMap Tryz.prog
  obtain ⟨bd, cd, b, c, ev, rfl, hD, hSt, hR⟩ := h.ex
  have hlen := o.pg.len
  have hpl : pubN ds ≤ 100 := Nat.le_trans (List.length_filter_le _ _) hlen
  have hsl : secN ds ≤ 100 := Nat.le_trans (List.length_filter_le _ _) hlen
  obtain ⟨S0, hS0⟩ : ∃ S0, S0 = newS p (pubN ds) (secN ds) := ⟨_, rfl⟩
  obtain ⟨N, hN⟩ : ∃ N, N = inNs (pubN ds) ds ds.length := ⟨_, rfl⟩
  obtain ⟨SF, hSF⟩ : ∃ SF, SF = cS p ds t := ⟨_, rfl⟩
  have hp0 : S0.p = p := by rw [hS0]; rfl
  have hB0 : Bd S0 201 := by rw [hS0]; exact ⟨⟨by show 0 ≤ 1 + (pubN ds : Int) + secN ds; omega, by show 1 + (pubN ds : Int) + secN ds ≤ 201; omega⟩, by show ((0 : Nat) : Int) ≤ 201; omega, by show ((0 : Nat) : Int) ≤ 201; omega⟩
  have ct := cTr_pos t
  have rt := rTr_pos p t
  have hcost := o.cost
  have hrows := o.rows
  have gok := o.gok
  rw [← hN] at gok
  have hSF1 : SF = gAssert (gTr N t S0).1 (gTr N t S0).2 (keepT (0, fred p 1)) := by rw [hSF, hN, hS0]; rfl
  have hBT := gTr_bd (N := N) t S0 201 hB0
  have hBF : Bd SF (201 + cTr t + 1) := by rw [hSF1]; exact hBT.row
  obtain ⟨zR, zH⟩ := o.size
  rw [← hSF] at zR zH
  have cNew := fun W => New20_ok p (pubN ds) (secN ds) W hv ⟨by omega, by omega, by omega, by omega⟩
  have cI := fun W base q b f (hC : CP base W q b p f 0 S0) (hb : Below w.heap.size w W) => inputs21_any (pubN ds) (secN ds) ds bd cd hC (hD.mono hb) hlen o.new rfl rfl (by rw [hS0]; exact ⟨rfl, rfl⟩) (by rw [hp0]; exact hv)
  have cE := fun W base q bb f mm (hC : CP base W q bb p f 0 S0) (hb : Below w.heap.size w W) (hm : NmP W mm N) => cexec_any (p := p) (rows1 := 0 + rTr p t) (S1 := (gTr N t S0).1) (L1 := (gTr N t S0).2) (201 + cTr t) b c ev hC hm (hSt.mono hb)
    (fun W2 hC2 hb2 hm2 => cval_any hv t S0 0 201 gok hp0 hB0 (by omega) (Int.le_refl _) (by omega) W2 (fun _ => True) ev (hR.mono (below2 hb hb2)) hC2 hm2) (by omega) (by omega) (by rw [gTr_p, hp0]; exact hv) hBT (by omega) (Nat.le_trans (gTr_len t S0 gok) (by omega))
  rw [← hSF1] at cE
  have cQ := fun W base b (hB : Bld W base b SF) => Circuit20_any base b SF W hB (by have := hBF.r; omega) (by have := hBF.h; omega) zR zH
  rw [← hN] at cI
  unfold RetNew at cNew
  rw [← hS0] at cNew
  have hFr : (SF.R.length : Int) ≤ 10202 := by have := hBF.r; omega
  have hFv : SF.vars ≤ 10202 := by have := hBF.v; omega
  have hFv0 : 0 ≤ SF.vars := hBF.v.1
  have hPu : (pubN ds : Int) ≤ 100 := by omega
  have hSu : (secN ds : Int) ≤ 100 := by omega
  rw [← hSF]
  generalize rTr p t = rt at *
  generalize cTr t = ct at *
  obtain ⟨PU, hPU⟩ : ∃ PU : Int, (pubN ds : Int) = PU := ⟨_, rfl⟩
  obtain ⟨SU, hSU⟩ : ∃ SU : Int, (secN ds : Int) = SU := ⟨_, rfl⟩
  have hP0 : 0 ≤ PU := by omega
  have hS00 : 0 ≤ SU := by omega
  rw [hPU] at cN cNew cI hPu
  rw [hSU] at cN cNew hSu
  obtain ⟨n, hn⟩ : ∃ n, ds.length = n := ⟨_, rfl⟩
  rw [hn] at cC cF cN cI
  rw [hn]
  clear o hSF hS0 hN hSF1 hBT hBF zR zH hB0 hp0 gok hlen hD hSt hR hPU hSU hn hpl hsl
  go_enter Tryz.func7, Tryz.ntmps7
  go_wp2_with fail
  refine name_calls fun W hW => ?_
  have hB : Below w.heap.size w W := by rw [hW]; exact ((Below.refl _ _).alloc (Nat.le_refl _) _).alloc (by simp) _
  have gA : Blk W w.heap.size #[.slice none 0 0, .slice (some ⟨bd, 0, none⟩) n cd, .slice (some ⟨b, 0, none⟩) 1 c] 41 := by rw [hW]; exact (Blk.newAt rfl).alloc _
  have gZ : Blk W (w.heap.size + 1) (cirC 0 0 0 0 none 0 0 none 0 0) 47 := by rw [hW]; exact Blk.newAt (by simp)
  clear hW h
  refine (cC W hB).mono ?_
  rintro e w1 ⟨rfl, hb1⟩
  replace gA := gA.mono hb1
  replace gZ := gZ.mono hb1
  have hB1 := below2 hB hb1
  have a0 := gA.cell (j := 0) (v := .slice none 0 0) rfl; have a1 := gA.cell (j := 1) (v := .slice (some ⟨bd, 0, none⟩) n cd) rfl; have a2 := gA.cell (j := 2) (v := .slice (some ⟨b, 0, none⟩) 1 c) rfl
  clear hB hb1 cC
  go_wp2_with fail
  clear a0 a1 a2
  refine (cF w1 hB1).mono ?_
  rintro e w2 ⟨rfl, hb2⟩
  replace gA := gA.mono hb2
  replace gZ := gZ.mono hb2
  have hB2 := below2 hB1 hb2
  have a0 := gA.cell (j := 0) (v := .slice none 0 0) rfl; have a1 := gA.cell (j := 1) (v := .slice (some ⟨bd, 0, none⟩) n cd) rfl; have a2 := gA.cell (j := 2) (v := .slice (some ⟨b, 0, none⟩) 1 c) rfl
  clear hB1 hb2 cF
  go_wp2_with fail
  clear a0 a1 a2
  refine (cN w2 hB2).mono ?_
  rintro e w3 ⟨rfl, hb3⟩
  replace gA := gA.mono hb3
  replace gZ := gZ.mono hb3
  have hB3 := below2 hB2 hb3
  have hw1 : IntKind.i64.wrap (PU + SU) = PU + SU := by rw [IntKind.wrap_i64]; omega
  have hlt : ¬ 65536 ≤ PU + SU := by omega
  clear hB2 hb3 cN
  go_wp2_with fail
  refine (cNew w3).mono ?_
  rintro e w4 ⟨bb, rfl, hBld, hb4⟩
  replace gA := gA.mono hb4
  replace gZ := gZ.mono hb4
  have hz3 := hB3.size
  have hB4 := below2 hB3 hb4
  have a0 := gA.cell (j := 0) (v := .slice none 0 0) rfl
  have a0' := (gA.alloc (.map #[] 0)).cell (j := 0) (v := .slice none 0 0) rfl
  have a0'' := ((gA.alloc (.map #[] 0)).alloc (.cells #[.int .u64 p, .pointer (some ⟨bb, 0, none⟩), .map (some w4.heap.size), .int .i64 0, .bool false] 75)).cell (j := 0) (v := .slice none 0 0) rfl
  have hlo := hBld.lt
  clear cNew hw1 hlt
  go_wp2_with fail
  clear a0 a0' a0'' hmm
  refine name_world fun W6 hW6 => ?_
  have hb6 : Below w4.heap.size w4 W6 := by rw [hW6]; exact ((Below.refl _ _).alloc (Nat.le_refl _) _).alloc (by simp) _
  have C6 : CP w3.heap.size W6 (w4.heap.size + 1) bb p w4.heap.size 0 S0 := ⟨by rw [hW6]; exact Blk.newAt (by simp), hBld.mono hb6, by omega⟩
  replace gA := gA.mono hb6
  replace gZ := gZ.mono hb6
  have hB6 := below2 hB4 hb6
  clear hW6 hBld hb6 hB4 hb4
  go_loopw [55] (fun t55 wr => t55 = .int .i64 0 ∧ wr = W6) (fun _ _ => 0)
  case atStart => exact ⟨rfl, rfl⟩
  case round =>
    obtain ⟨rfl, rfl⟩ := hrel
    go_wp2_with fail
    refine Rel.region_any Tryz.mixed fun w7 hb7 => ?_
    replace gA := gA.mono hb7
    replace gZ := gZ.mono hb7
    have C7 := C6.mono hb7
    have hB7 := below2 hB6 hb7
    clear C6 hB6 hb7
    refine Rel.any_held (fun W => W.cell? ⟨w.heap.size, 1, none⟩ = some (.slice (some ⟨bd, 0, none⟩) n cd) ∧ W.cell? ⟨w.heap.size, 2, none⟩ = some (.slice (some ⟨b, 0, none⟩) 1 c)) 6 ⟨gA.cell (j := 1) rfl, gA.cell (j := 2) rfl⟩ fun hH0 => ?_
    refine Rel.tk (v := ?_) 0 ?_ ?_
    rotate_left
    · (intro W hSw; (try dsimp only at hSw); go_simp; try with_reducible rfl)
    try simp only [Act.put, List.setIfInBounds_toArray, List.set_cons_zero, List.set_cons_succ]
    refine Rel.tk (v := ?_) 1 ?_ ?_
    rotate_left
    · (intro W hSw; (try dsimp only at hSw); go_simp; try with_reducible rfl)
    try simp only [Act.put, List.setIfInBounds_toArray, List.set_cons_zero, List.set_cons_succ]
    refine Rel.tk (v := ?_) 2 ?_ ?_
    rotate_left
    · (intro W hSw; (try dsimp only at hSw); go_simp; try with_reducible rfl)
    try simp only [Act.put, List.setIfInBounds_toArray, List.set_cons_zero, List.set_cons_succ]
    refine Rel.tk (v := ?_) 3 ?_ ?_
    rotate_left
    · (intro W hSw; (try dsimp only at hSw); go_simp; try with_reducible rfl)
    try simp only [Act.put, List.setIfInBounds_toArray, List.set_cons_zero, List.set_cons_succ]
    refine Rel.tk (v := ?_) 4 ?_ ?_
    rotate_left
    · (intro W hSw; (try dsimp only at hSw); go_simp; try with_reducible rfl)
    try simp only [Act.put, List.setIfInBounds_toArray, List.set_cons_zero, List.set_cons_succ]
    refine Rel.heldNext 5 rfl (by kernel_rfl) fun K hK => ?_
    go_simp
    refine (cI w7 _ _ _ _ C7 hB7).mono ?_
    rintro e w8 ⟨mm, rfl, hm8, hb8⟩
    replace gA := gA.mono hb8
    replace gZ := gZ.mono hb8
    have C8 := C7.mono hb8
    have hB8 := below2 hB7 hb8
    clear C7 hB7 hb8 cI
    refine hK.out _ _ ⟨gA.cell (j := 1) rfl, gA.cell (j := 2) rfl⟩ (fun hH1 => ?_)
    clear hK K
    try simp only [Act.put, List.setIfInBounds_toArray, List.set_cons_zero, List.set_cons_succ]
    refine Rel.heldLast 6 rfl (by kernel_rfl) rfl (by kernel_rfl) fun K hK => ?_
    go_simp
    refine (cE w8 _ _ _ _ mm C8 hB8 hm8).mono ?_
    rintro e w9 ⟨rfl, C9, k9⟩
    have gZ9 := k9.kx.typ _ _ _ gZ (by unfold XCp; decide)
    have hB9 : Below w.heap.size w w9 := hB8.trans (k9.below.mono hz3)
    clear C8 hB8 gZ gA k9 hm8 cE
    refine hK.out _ _ ?_
    clear hK K hH0 hH1
    have q4 := C9.blk.cell (j := 4) (v := .bool false) rfl
    go_wp2_with fail
    clear q4
    refine (cQ w9 _ _ C9.bld).mono ?_
    rintro e w10 ⟨ra, rc, R, ha, hc, H, rfl, hR10, hH10, eR, eH, hb10⟩
    have gZ10 := gZ9.mono hb10
    have hB10 := below2 hB9 hb10
    have hRl : (R.length : Int) = SF.R.length := by rw [← eR.out, List.length_map]
    clear C9 gZ9 hB9 hb10 cQ
    obtain ⟨M, hM⟩ : ∃ M, R.length = M := ⟨_, rfl⟩
    obtain ⟨L, hL⟩ : ∃ L, H.length = L := ⟨_, rfl⟩
    rw [hM] at hRl ⊢
    rw [hL]
    have hMI : (M : Int) ≤ 10202 := by omega
    have hgt1 : ¬ (16384 : Int) < M := by omega
    have hgt2 : ¬ (65536 : Int) < SF.vars := by omega
    clear hRl
    obtain ⟨W11, hW11⟩ : ∃ W11, W11 = w10.alloc (.cells #[.int .u64 SF.p, .int .i64 SF.pub, .int .i64 SF.vars, .slice ra M rc, .int .i64 SF.sec, .slice ha L hc] 47) := ⟨_, rfl⟩
    have hb11 : Below w10.heap.size w10 W11 := by rw [hW11]; exact (Below.refl _ _).alloc (Nat.le_refl _) _
    obtain ⟨gF, hRF, hHF, hBF⟩ := setC6_all (gZ10.mono hb11) SF.p SF.pub SF.vars SF.sec ra M rc ha L hc (below2 hB10 hb11) (show w.heap.size ≤ w.heap.size + 1 by omega) (hR10.mono hb11) (hH10.mono hb11)
    obtain ⟨W12, hW12⟩ : ∃ W12, W12 = setC6 W11 (w.heap.size + 1) SF.p SF.pub SF.vars SF.sec ra M rc ha L hc := ⟨_, rfl⟩
    rw [← hW12] at gF hRF hHF hBF
    unfold setC6 at hW12
    rw [hW11] at hW12
    have gz := gZ10.alloc (.cells #[.int .u64 SF.p, .int .i64 SF.pub, .int .i64 SF.vars, .slice ra M rc, .int .i64 SF.sec, .slice ha L hc] 47)
    unfold cirC at gz gF
    have y0 := gz.cell (j := 0) (v := .int .u64 0) rfl; have y1 := gz.cell (j := 1) (v := .int .i64 0) rfl; have y2 := gz.cell (j := 2) (v := .int .i64 0) rfl; have y3 := gz.cell (j := 3) (v := .slice none 0 0) rfl; have y4 := gz.cell (j := 4) (v := .int .i64 0) rfl; have y5 := gz.cell (j := 5) (v := .slice none 0 0) rfl
    have yf := gz.free
    have z0 := gF.cell (j := 0) (v := .int .u64 SF.p) rfl; have z1 := gF.cell (j := 1) (v := .int .i64 SF.pub) rfl; have z2 := gF.cell (j := 2) (v := .int .i64 SF.vars) rfl; have z3 := gF.cell (j := 3) (v := .slice ra M rc) rfl; have z4 := gF.cell (j := 4) (v := .int .i64 SF.sec) rfl; have z5 := gF.cell (j := 5) (v := .slice ha L hc) rfl
    have F : RetCp w SF (.returned (.tuple #[.agg #[.int .u64 SF.p, .int .i64 SF.pub, .int .i64 SF.vars, .slice ra M rc, .int .i64 SF.sec, .slice ha L hc], .int .i64 0])) W12 := ⟨ra, rc, R, ha, hc, H, by rw [hM, hL], hRF, hHF, eR, eH, hBF⟩
    clear gF hRF hHF hBF gz hW11 hb11 gZ10 hB10 hR10 hH10 eR eH hM hL
    generalize SF.p = s0 at *
    generalize SF.pub = s1 at *
    generalize SF.vars = s2 at *
    generalize SF.sec = s3 at *
    go_wp2
    rw [← hW12]
    exact bodyPost_ret (v := .tuple #[.agg #[.int .u64 s0, .int .i64 s1, .int .i64 s2, .slice ra M rc, .int .i64 s3, .slice ha L hc], .int .i64 0]) (by simp [results, Tryz.results7, go_sem, z0, z1, z2, z3, z4, z5]) rfl F
end Go.Proofs.YtalmgeefkcebdaaGreatDoor

