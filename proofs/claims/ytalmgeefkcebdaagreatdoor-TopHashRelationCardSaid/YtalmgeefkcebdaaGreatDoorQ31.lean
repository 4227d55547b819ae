/- compiler: expressions. -/
import Derived.Test.YtalmgeefkcebdaaGreatDoorQ30
namespace Go.Proofs.YtalmgeefkcebdaaGreatDoor
open Go.RowKit

/-- The parts of a value. -/
structure Vv where
  bx : Nat
  c : Nat
  k0 : Int
  k1 : Int
  k2 : Int
  k3 : Int
def IsVv (w : World) (v : Vv) (s : Lc) : Prop := ∃ cs, Blk w v.bx cs 95 ∧ cs[0]? = some (lcV s) ∧ LinT w s
theorem IsVal.vv {w : World} {V : Value} {s : Lc} (h : IsVal w V s) : ∃ v : Vv, V = .agg #[.slice (some ⟨v.bx, 0, none⟩) 1 v.c, .int .i64 v.k0, .int .i64 v.k1, .int .i64 v.k2, .int .i64 v.k3] ∧ IsVv w v s := by
  obtain ⟨bx, c, cs, k0, k1, k2, k3, rfl, h2, h3, h4⟩ := h
  exact ⟨⟨bx, c, k0, k1, k2, k3⟩, rfl, cs, h2, h3, h4⟩
theorem IsVv.val {w : World} {v : Vv} {s : Lc} (h : IsVv w v s) : IsVal w (.agg #[.slice (some ⟨v.bx, 0, none⟩) 1 v.c, .int .i64 v.k0, .int .i64 v.k1, .int .i64 v.k2, .int .i64 v.k3]) s := by
  obtain ⟨cs, h2, h3, h4⟩ := h
  exact ⟨v.bx, v.c, cs, v.k0, v.k1, v.k2, v.k3, rfl, h2, h3, h4⟩
theorem IsVv.mono {w w' : World} {v : Vv} {s : Lc} (h : IsVv w v s) (hb : Below w.heap.size w w') : IsVv w' v s := by
  obtain ⟨cs, h2, h3, h4⟩ := h
  exact ⟨cs, h2.mono hb, h3, h4.mono hb⟩
theorem IsVv.km {base : Nat} {w w' : World} {v : Vv} {s : Lc} (h : IsVv w v s) (k : KM base w w') : IsVv w' v s := by
  obtain ⟨cs, h2, h3, h4⟩ := h
  exact ⟨cs, k.kx.typ _ _ _ h2 (by unfold XCp; decide), h3, k.lin h4⟩
theorem IsVv.setT {w : World} {v : Vv} {s : Lc} {g j : Nat} {cs : Array Value} {E : TypeId} {u : Value} (h : IsVv w v s) (gb : Blk w g cs E) (h1 : E ≠ 95) (h2 : E ≠ 131) : IsVv (w.setCell ⟨g, j, none⟩ u) v s := by
  obtain ⟨cs, e2, e3, e4⟩ := h
  exact ⟨cs, e2.other (fun e => by subst e; exact h1 (blk_type gb e2)) _ _, e3, e4.setType gb h2⟩
/-- Names and their combinations. -/
def NmR (w : World) : List (ByteArray × Value) → List (ByteArray × Lin) → Prop
  | [], [] => True
  | p :: r, p' :: r' => p.1 = p'.1 ∧ (∃ s, IsVal w p.2 s ∧ s.l = p'.2) ∧ NmR w r r'
  | _, _ => False
def getN : List (ByteArray × Lin) → ByteArray → Option Lin
  | [], _ => none
  | p :: r, s => match s == p.1 with
    | true => some p.2
    | false => getN r s
theorem NmR.get {w : World} {s : ByteArray} : ∀ {L : List (ByteArray × Value)} {N : List (ByteArray × Lin)}, NmR w L N → (getN N s = none → getM L s = none) ∧ ∀ l, getN N s = some l → ∃ V s', getM L s = some V ∧ IsVal w V s' ∧ s'.l = l
  | [], [], _ => ⟨fun _ => rfl, fun l h => by cases h⟩
  | [], _ :: _, h => h.elim
  | _ :: _, [], h => h.elim
  | p :: r, p' :: r', ⟨h1, ⟨s', h2, h3⟩, h4⟩ => by
    have ih := NmR.get (s := s) h4
    cases hb : (s == p.1) with
    | true =>
      have e1 : getM (p :: r) s = some p.2 := by unfold getM; rw [hb]
      have e2 : getN (p' :: r') s = some p'.2 := by unfold getN; rw [← h1, hb]
      rw [e1, e2]
      exact ⟨fun h => (by cases h), fun l h => (by cases h; exact ⟨p.2, s', rfl, h2, h3⟩)⟩
    | false =>
      have e1 : getM (p :: r) s = getM r s := by
        show (match s == p.1 with | true => some p.2 | false => getM r s) = getM r s
        rw [hb]
      have e2 : getN (p' :: r') s = getN r' s := by
        show (match s == p'.1 with | true => some p'.2 | false => getN r' s) = getN r' s
        rw [← h1, hb]
      rw [e1, e2]
      exact ih
theorem NmR.imp {w w' : World} (hI : ∀ V s, IsVal w V s → IsVal w' V s) : ∀ {L : List (ByteArray × Value)} {N : List (ByteArray × Lin)}, NmR w L N → NmR w' L N
  | [], [], _ => trivial
  | [], _ :: _, h => h.elim
  | _ :: _, [], h => h.elim
  | _ :: _, _ :: _, ⟨h1, ⟨s', h2, h3⟩, h4⟩ => ⟨h1, ⟨s', hI _ _ h2, h3⟩, NmR.imp hI h4⟩
theorem NmR.snoc {w : World} {a : ByteArray} {V : Value} {s : Lc} {l : Lin} (hv : IsVal w V s) (hl : s.l = l) : ∀ {L : List (ByteArray × Value)} {N : List (ByteArray × Lin)}, NmR w L N → NmR w (L ++ [(a, V)]) (N ++ [(a, l)])
  | [], [], _ => ⟨rfl, ⟨s, hv, hl⟩, trivial⟩
  | [], _ :: _, h => h.elim
  | _ :: _, [], h => h.elim
  | _ :: _, _ :: _, ⟨h1, h2, h4⟩ => ⟨h1, h2, NmR.snoc hv hl h4⟩
def NmP (w : World) (mm : Nat) (N : List (ByteArray × Lin)) : Prop := ∃ L, Mp w mm L ∧ NmR w L N
section
variable {w w' : World} {mm : Nat} {N : List (ByteArray × Lin)}
theorem NmP.mono (h : NmP w mm N) (hb : Below w.heap.size w w') : NmP w' mm N := by
  obtain ⟨L, h1, h2⟩ := h
  exact ⟨L, h1.mono hb, h2.imp fun _ _ h => h.mono hb⟩
theorem NmP.km {base : Nat} (h : NmP w mm N) (k : KM base w w') : NmP w' mm N := by
  obtain ⟨L, h1, h2⟩ := h
  exact ⟨L, h1.km k, h2.imp fun _ _ h => h.km k⟩
theorem NmP.setT {g j : Nat} {cs : Array Value} {E : TypeId} {u : Value} (h : NmP w mm N) (gb : Blk w g cs E) (e1 : E ≠ 95) (e2 : E ≠ 131) : NmP (w.setCell ⟨g, j, none⟩ u) mm N := by
  obtain ⟨L, h1, h2⟩ := h
  exact ⟨L, h1.set gb, h2.imp fun _ _ h => h.setT gb e1 e2⟩
theorem NmP.lt (h : NmP w mm N) : mm < w.heap.size := by
  obtain ⟨L, h1, h2⟩ := h
  exact h1.lt
end
/-- The compiler returns a value. -/
def RetVl (base : Nat) (w : World) (q b : Nat) (p : Int) (f : Nat) (rows : Int) (S : St) (L : Lin) (e : Ending) (w' : World) : Prop := ∃ (s : Lc) (V : Value), e = .returned V ∧ IsVal w' V s ∧ Hid (s.l = L) ∧ CP base w' q b p f rows S ∧ KM base w w'
theorem mkVl2 (W : World) : (Instr.makeSlice 183 (.int .i64 2) (.int .i64 2)).run Tryz.prog W = .ok (.slice (some ⟨W.heap.size, 0, none⟩) 2 2) (W.alloc (.cells #[.slice none 0 0, .int .i64 0, .int .i64 0, .int .i64 0, .int .i64 0, .slice none 0 0, .int .i64 0, .int .i64 0, .int .i64 0, .int .i64 0] 119)) := by
  have hi : (Tryz.prog.info? 119).map (fun i => (i.zero, i.size, i.bytes)) = some (some (.agg #[.slice none 0 0, .int .i64 0, .int .i64 0, .int .i64 0, .int .i64 0]), 5, 56) := by kernel_rfl
  have h := run_mkG (⟨fun (_ : Unit) => [.slice none 0 0, .int .i64 0, .int .i64 0, .int .i64 0, .int .i64 0], 5, fun _ => rfl, by decide, fun _ u hu => by simp at hu; rcases hu with rfl | rfl <;> rfl⟩ : Lay Unit) (P := Tryz.prog) (t := 183) (e := 119) Tryz.underlying183 hi (by decide) (N := 2) (C := 2) 2 2 rfl rfl (Nat.le_refl _) (by omega) W
  rw [show madeCells (Value.agg #[.slice none 0 0, .int .i64 0, .int .i64 0, .int .i64 0, .int .i64 0]).cells (2 * 5) = #[.slice none 0 0, .int .i64 0, .int .i64 0, .int .i64 0, .int .i64 0, .slice none 0 0, .int .i64 0, .int .i64 0, .int .i64 0, .int .i64 0] from by kernel_rfl] at h
  exact h
set_option maxRecDepth 10000 in
set_option maxHeartbeats 16000000 in
theorem cval_nm {base q b f : Nat} {w : World} {p rows : Int} {S : St} {N : List (ByteArray × Lin)} {mm : Nat} (s : ByteArray) (l : Lin) (h : CP base w q b p f rows S) (hm : NmP w mm N) (hs : getN N s = some l) :
    Calls Tryz.prog 44 #[.pointer (some ⟨q, 0, none⟩), evV ⟨2, 0, s, none, 0, 0⟩, .map (some mm)] w (RetVl base w q b p f rows S l) := by
  obtain ⟨L, hM, hR⟩ := hm
  obtain ⟨V, sv, hget, hV, hl⟩ := hR.get.2 l hs
  obtain ⟨v, rfl, iv⟩ := hV.vv
  obtain ⟨W, hW⟩ : ∃ W, W = (w.alloc (.cells #[.int .i64 2, .int .u64 0, .string s, .slice none 0 0] 29)).alloc (.cells #[.slice none 0 0, .int .i64 0, .int .i64 0, .int .i64 0, .int .i64 0] 119) := ⟨_, rfl⟩
  have hbW : Below w.heap.size w W := by rw [hW]; exact ((Below.refl _ _).alloc (Nat.le_refl _) _).alloc (by simp) _
  have hlk := run_look (t := 81) (k := 9) (e := 119) (P := Tryz.prog) Tryz.underlying81 Tryz.underlying9 (hM.mono hbW) false hget
  rw [if_neg (by decide)] at hlk
  rw [hW] at hlk
  obtain ⟨W7, hW7⟩ : ∃ W7, W7 = (w.alloc (.cells #[.int .i64 2, .int .u64 0, .string s, .slice none 0 0] 29)).alloc (.cells #[.slice (some ⟨v.bx, 0, none⟩) 1 v.c, .int .i64 v.k0, .int .i64 v.k1, .int .i64 v.k2, .int .i64 v.k3] 119) := ⟨_, rfl⟩
  have hB : Below w.heap.size w W7 := by rw [hW7]; exact ((Below.refl _ _).alloc (Nat.le_refl _) _).alloc (by simp) _
  have gV : Blk W7 (w.heap.size + 1) #[.slice (some ⟨v.bx, 0, none⟩) 1 v.c, .int .i64 v.k0, .int .i64 v.k1, .int .i64 v.k2, .int .i64 v.k3] 119 := by rw [hW7]; exact Blk.newAt (by simp)
  have z0 := gV.cell (j := 0) (v := .slice (some ⟨v.bx, 0, none⟩) 1 v.c) rfl; have z1 := gV.cell (j := 1) (v := .int .i64 v.k0) rfl; have z2 := gV.cell (j := 2) (v := .int .i64 v.k1) rfl; have z3 := gV.cell (j := 3) (v := .int .i64 v.k2) rfl; have z4 := gV.cell (j := 4) (v := .int .i64 v.k3) rfl
  have F : RetVl base w q b p f rows S l (.returned (.agg #[.slice (some ⟨v.bx, 0, none⟩) 1 v.c, .int .i64 v.k0, .int .i64 v.k1, .int .i64 v.k2, .int .i64 v.k3])) W7 := ⟨sv, _, rfl, (iv.mono hB).val, hide hl, h.mono hB, KM.of_below hB h.lt⟩
  unfold evV
  clear hbW hW hB gV iv hV hR hM h
  go_enter Tryz.func44, Tryz.ntmps44
  go_wp2
  rw [← hW7]
  exact bodyPost_ret (v := .agg #[.slice (some ⟨v.bx, 0, none⟩) 1 v.c, .int .i64 v.k0, .int .i64 v.k1, .int .i64 v.k2, .int .i64 v.k3]) (by simp [results, Tryz.results44, go_sem, z0, z1, z2, z3, z4]) rfl F
/-- Two operands, behind i of them. -/
structure VaS (base : Nat) (w wr : World) (q b : Nat) (p : Int) (f : Nat) (op val : Int) (bb : Nat) (x y : Ev) (i : Nat) (v1 v2 : Vv) (s1 s2 : Lc) {N : List (ByteArray × Lin)} {mm : Nat} {L1 L2 : Lin} {rows rows1 rows2 : Int} {S S1 S2 : St} : Prop where
  a : Blk wr w.heap.size #[.int .i64 op, .int .u64 val, .string ⟨#[]⟩, .slice (some ⟨bb, 0, none⟩) 2 2] 29
  z : Blk wr (w.heap.size + 1) #[.slice none 0 0, .int .i64 0, .int .i64 0, .int .i64 0, .int .i64 0] 119
  t : Blk wr (w.heap.size + 1 + 1) #[if 0 < i then .slice (some ⟨v1.bx, 0, none⟩) 1 v1.c else .slice none 0 0, .int .i64 (if 0 < i then v1.k0 else 0), .int .i64 (if 0 < i then v1.k1 else 0), .int .i64 (if 0 < i then v1.k2 else 0), .int .i64 (if 0 < i then v1.k3 else 0), if 1 < i then .slice (some ⟨v2.bx, 0, none⟩) 1 v2.c else .slice none 0 0, .int .i64 (if 1 < i then v2.k0 else 0), .int .i64 (if 1 < i then v2.k1 else 0), .int .i64 (if 1 < i then v2.k2 else 0), .int .i64 (if 1 < i then v2.k3 else 0)] 119
  g : Blk wr bb #[.int .i64 x.op, .int .u64 x.val, .string x.nm, .slice x.ad x.n x.c, .int .i64 y.op, .int .u64 y.val, .string y.nm, .slice y.ad y.n y.c] 29
  cp : CP base wr q b p f (if 0 < i then if 1 < i then rows2 else rows1 else rows) (if 0 < i then if 1 < i then S2 else S1 else S)
  km : KM base w wr
  ne : bb < w.heap.size
  hz : base ≤ w.heap.size
  i1 : 0 < i → IsVv wr v1 s1 ∧ Hid (s1.l = L1)
  i2 : 1 < i → IsVv wr v2 s2 ∧ Hid (s2.l = L2)
  nm : NmP wr mm N
section
variable {base : Nat} {w wr w' : World} {q b : Nat} {p : Int} {f : Nat} {op val : Int} {bb : Nat} {x y : Ev} {i : Nat} {v1 v2 : Vv} {s1 s2 : Lc} {N : List (ByteArray × Lin)} {mm : Nat} {L1 L2 : Lin} {rows rows1 rows2 : Int} {S S1 S2 : St}
theorem VaS.mono (h : VaS base w wr q b p f op val bb x y i v1 v2 s1 s2 (N := N) (mm := mm) (L1 := L1) (L2 := L2) (rows := rows) (rows1 := rows1) (rows2 := rows2) (S := S) (S1 := S1) (S2 := S2)) (hb : Below wr.heap.size wr w') : VaS base w w' q b p f op val bb x y i v1 v2 s1 s2 (N := N) (mm := mm) (L1 := L1) (L2 := L2) (rows := rows) (rows1 := rows1) (rows2 := rows2) (S := S) (S1 := S1) (S2 := S2) :=
  ⟨h.a.mono hb, h.z.mono hb, h.t.mono hb, h.g.mono hb, h.cp.mono hb, h.km.trans (KM.of_below hb h.cp.lt), h.ne, h.hz, fun hi => ⟨(h.i1 hi).1.mono hb, (h.i1 hi).2⟩, fun hi => ⟨(h.i2 hi).1.mono hb, (h.i2 hi).2⟩, h.nm.mono hb⟩
/-- The same, behind a call that has changed the circuit. -/
structure VbS (base : Nat) (w wr : World) (q b : Nat) (p : Int) (f : Nat) (op val : Int) (bb : Nat) (x y : Ev) (i : Nat) (v1 v2 : Vv) (s1 s2 : Lc) (N : List (ByteArray × Lin)) (mm : Nat) (L1 L2 : Lin) (rows : Int) (S : St) : Prop where
  a : Blk wr w.heap.size #[.int .i64 op, .int .u64 val, .string ⟨#[]⟩, .slice (some ⟨bb, 0, none⟩) 2 2] 29
  z : Blk wr (w.heap.size + 1) #[.slice none 0 0, .int .i64 0, .int .i64 0, .int .i64 0, .int .i64 0] 119
  t : Blk wr (w.heap.size + 1 + 1) #[if 0 < i then .slice (some ⟨v1.bx, 0, none⟩) 1 v1.c else .slice none 0 0, .int .i64 (if 0 < i then v1.k0 else 0), .int .i64 (if 0 < i then v1.k1 else 0), .int .i64 (if 0 < i then v1.k2 else 0), .int .i64 (if 0 < i then v1.k3 else 0), if 1 < i then .slice (some ⟨v2.bx, 0, none⟩) 1 v2.c else .slice none 0 0, .int .i64 (if 1 < i then v2.k0 else 0), .int .i64 (if 1 < i then v2.k1 else 0), .int .i64 (if 1 < i then v2.k2 else 0), .int .i64 (if 1 < i then v2.k3 else 0)] 119
  g : Blk wr bb #[.int .i64 x.op, .int .u64 x.val, .string x.nm, .slice x.ad x.n x.c, .int .i64 y.op, .int .u64 y.val, .string y.nm, .slice y.ad y.n y.c] 29
  cp : CP base wr q b p f rows S
  km : KM base w wr
  ne : bb < w.heap.size
  hz : base ≤ w.heap.size
  i1 : 0 < i → IsVv wr v1 s1 ∧ Hid (s1.l = L1)
  i2 : 1 < i → IsVv wr v2 s2 ∧ Hid (s2.l = L2)
  nm : NmP wr mm N
theorem VaS.step {r' : Int} {S' : St} (h : VaS base w wr q b p f op val bb x y i v1 v2 s1 s2 (N := N) (mm := mm) (L1 := L1) (L2 := L2) (rows := rows) (rows1 := rows1) (rows2 := rows2) (S := S) (S1 := S1) (S2 := S2)) (k : KM base wr w') (C : CP base w' q b p f r' S') : VbS base w w' q b p f op val bb x y i v1 v2 s1 s2 N mm L1 L2 r' S' :=
  have hX : ∀ T, T = 29 ∨ T = 119 → ¬ XCp T := fun T hT => by rcases hT with rfl | rfl <;> unfold XCp <;> decide
  ⟨k.kx.typ _ _ _ h.a (hX _ (.inl rfl)), k.kx.typ _ _ _ h.z (hX _ (.inr rfl)), k.kx.typ _ _ _ h.t (hX _ (.inr rfl)), k.kx.typ _ _ _ h.g (hX _ (.inl rfl)), C, h.km.trans k, h.ne, h.hz, fun hi => ⟨(h.i1 hi).1.km k, (h.i1 hi).2⟩, fun hi => ⟨(h.i2 hi).1.km k, (h.i2 hi).2⟩, h.nm.km k⟩
end
set_option maxRecDepth 10000 in
set_option maxHeartbeats 64000000 in
theorem cval_bin11 {base q b f : Nat} {w : World} {p rows rows1 rows2 rows3 : Int} {S S1 S2 S3 : St} {L1 L2 L3 : Lin} {N : List (ByteArray × Lin)} {mm : Nat} (val : Int) (bb : Nat) (x y : Ev) (h : CP base w q b p f rows S) (hm : NmP w mm N)
    (g : Blk w bb #[.int .i64 x.op, .int .u64 x.val, .string x.nm, .slice x.ad x.n x.c, .int .i64 y.op, .int .u64 y.val, .string y.nm, .slice y.ad y.n y.c] 29)
    (cX : ∀ W, CP base W q b p f rows S → KM base w W → Calls Tryz.prog 44 #[.pointer (some ⟨q, 0, none⟩), evV x, .map (some mm)] W (RetVl base W q b p f rows1 S1 L1)) (cY : ∀ W, CP base W q b p f rows1 S1 → KM base w W → Calls Tryz.prog 44 #[.pointer (some ⟨q, 0, none⟩), evV y, .map (some mm)] W (RetVl base W q b p f rows2 S2 L2))
    (cO : ∀ W bl (x y : Lc), CP base W q b p f rows2 S2 → LinT W x → LinT W y → x.l = L1 → y.l = L2 → Blk W bl #[lcV x, lcV y] 95 → Calls Tryz.prog 96 #[.pointer (some ⟨q, 0, none⟩), .int .i64 11, .slice (some ⟨bl, 0, none⟩) 2 2] W (RetCB base W q b p f rows3 S3 L3)) :
    Calls Tryz.prog 44 #[.pointer (some ⟨q, 0, none⟩), evV ⟨11, val, ⟨#[]⟩, some ⟨bb, 0, none⟩, 2, 2⟩, .map (some mm)] w (RetVl base w q b p f rows3 S3 L3) := by
  have m2 := mkVl2
  obtain ⟨op, hop⟩ : ∃ op : Int, op = 11 := ⟨_, rfl⟩
  have hz := h.lt
  unfold evV at *
  go_enter Tryz.func44, Tryz.ntmps44
  go_wp2_with fail
  refine name_world fun W hN => ?_
  have hB : Below w.heap.size w W := by rw [hN]; exact (((Below.refl _ _).alloc (Nat.le_refl _) _).alloc (by simp) _).alloc (by simp; omega) _
  have gA : Blk W w.heap.size #[.int .i64 11, .int .u64 val, .string ⟨#[]⟩, .slice (some ⟨bb, 0, none⟩) 2 2] 29 := by rw [hN]; exact ((Blk.newAt rfl).alloc _).alloc _
  have gZ : Blk W (w.heap.size + 1) #[.slice none 0 0, .int .i64 0, .int .i64 0, .int .i64 0, .int .i64 0] 119 := by rw [hN]; exact (Blk.newAt (by simp)).alloc _
  have gT : Blk W (w.heap.size + 1 + 1) #[.slice none 0 0, .int .i64 0, .int .i64 0, .int .i64 0, .int .i64 0, .slice none 0 0, .int .i64 0, .int .i64 0, .int .i64 0, .int .i64 0] 119 := by rw [hN]; exact Blk.newAt (by simp)
  have hblt := g.lt
  have hmlt := hm.lt
  have S0 : VaS base w W q b p f 11 val bb x y 0 ⟨0, 0, 0, 0, 0, 0⟩ ⟨0, 0, 0, 0, 0, 0⟩ ⟨none, 0, []⟩ ⟨none, 0, []⟩ (N := N) (mm := mm) (L1 := L1) (L2 := L2) (rows := rows) (rows1 := rows1) (rows2 := rows2) (S := S) (S1 := S1) (S2 := S2) :=
    ⟨gA, gZ, gT, g.mono hB, h.mono hB, KM.of_below hB hz, by omega, hz, fun h => absurd h (by decide), fun h => absurd h (by decide), hm.mono hB⟩
  clear hN m2 gA gZ gT hB h g hm
  go_loopw [53] (fun t53 wr => ∃ i : Nat, i ≤ 2 ∧ t53 = .int .i64 i ∧ ∃ v1 v2 s1 s2, VaS base w wr q b p f 11 val bb x y i v1 v2 s1 s2 (N := N) (mm := mm) (L1 := L1) (L2 := L2) (rows := rows) (rows1 := rows1) (rows2 := rows2) (S := S) (S1 := S1) (S2 := S2)) (fun t53 _ => 2 - (intOf t53).toNat)
  case atStart => exact ⟨0, by omega, rfl, _, _, _, _, S0⟩
  case round =>
    clear S0
    obtain ⟨i, hi, rfl, hS⟩ := hrel
    rcases (show i = 0 ∨ i = 1 ∨ i = 2 by omega) with rfl | rfl | rfl
    · obtain ⟨v1, v2, s1, s2, T⟩ := hS
      have c0 := T.g.cell (j := 0) (v := .int .i64 x.op) rfl; have c1 := T.g.cell (j := 1) (v := .int .u64 x.val) rfl; have c2 := T.g.cell (j := 2) (v := .string x.nm) rfl; have c3 := T.g.cell (j := 3) (v := .slice x.ad x.n x.c) rfl
      have hb1 : Below wr.heap.size wr (wr.alloc (.cells #[.int .i64 x.op, .int .u64 x.val, .string x.nm, .slice x.ad x.n x.c] 29)) := (Below.refl _ _).alloc (Nat.le_refl _) _
      have T1 := T.mono hb1
      clear T
      go_wp2_with fail
      refine (cX _ T1.cp T1.km).mono ?_
      rintro e w2 ⟨s, V, rfl, iv, es, C2, k2⟩
      obtain ⟨u, rfl, iu⟩ := iv.vv
      have T2 := T1.step k2 C2
      have h1lt := T2.a.lt
      have h2lt := T2.t.lt
      clear c0 c1 c2 c3 T1 hb1 C2 k2
      have t0 := T2.t.cell (j := 0) (v := .slice none 0 0) rfl; have t1 := T2.t.cell (j := 1) (v := .int .i64 0) rfl; have t2 := T2.t.cell (j := 2) (v := .int .i64 0) rfl; have t3 := T2.t.cell (j := 3) (v := .int .i64 0) rfl; have t4 := T2.t.cell (j := 4) (v := .int .i64 0) rfl
      have tf := T2.t.free
      obtain ⟨W7, hW7⟩ : ∃ W7, W7 = (((((w2).setCell ⟨w.heap.size + 1 + 1, 0, none⟩ (.slice (some ⟨u.bx, 0, none⟩) 1 u.c)).setCell ⟨w.heap.size + 1 + 1, 1, none⟩ (.int .i64 u.k0)).setCell ⟨w.heap.size + 1 + 1, 2, none⟩ (.int .i64 u.k1)).setCell ⟨w.heap.size + 1 + 1, 3, none⟩ (.int .i64 u.k2)).setCell ⟨w.heap.size + 1 + 1, 4, none⟩ (.int .i64 u.k3) := ⟨_, rfl⟩
      have S7 : VaS base w W7 q b p f 11 val bb x y 1 u v2 s s2 (N := N) (mm := mm) (L1 := L1) (L2 := L2) (rows := rows) (rows1 := rows1) (rows2 := rows2) (S := S) (S1 := S1) (S2 := S2) := by
        rw [hW7]
        have g1 := T2.t.set 0 (.slice (some ⟨u.bx, 0, none⟩) 1 u.c)
        have g2 := g1.set 1 (.int .i64 u.k0)
        have g3 := g2.set 2 (.int .i64 u.k1)
        have g4 := g3.set 3 (.int .i64 u.k2)
        have g5 := g4.set 4 (.int .i64 u.k3)
        have kS : ∀ s, LinT w2 s → LinT ((((((w2).setCell ⟨w.heap.size + 1 + 1, 0, none⟩ (.slice (some ⟨u.bx, 0, none⟩) 1 u.c)).setCell ⟨w.heap.size + 1 + 1, 1, none⟩ (.int .i64 u.k0)).setCell ⟨w.heap.size + 1 + 1, 2, none⟩ (.int .i64 u.k1)).setCell ⟨w.heap.size + 1 + 1, 3, none⟩ (.int .i64 u.k2)).setCell ⟨w.heap.size + 1 + 1, 4, none⟩ (.int .i64 u.k3)) s := fun s hs => ((((hs.setType T2.t (by decide)).setType g1 (by decide)).setType g2 (by decide)).setType g3 (by decide)).setType g4 (by decide)
        have hle : w.heap.size ≤ w.heap.size + 1 + 1 := by omega
        have h0 := T2.hz
        exact ⟨((((((T2.a).other (by omega) _ _).other (by omega) _ _).other (by omega) _ _).other (by omega) _ _).other (by omega) _ _), ((((((T2.z).other (by omega) _ _).other (by omega) _ _).other (by omega) _ _).other (by omega) _ _).other (by omega) _ _), g5, ((((((T2.g).other (by omega) _ _).other (by omega) _ _).other (by omega) _ _).other (by omega) _ _).other (by omega) _ _), ((((T2.cp.setT T2.t (by decide) (by decide) (by decide) (by decide) (by decide)).setT g1 (by decide) (by decide) (by decide) (by decide) (by decide)).setT g2 (by decide) (by decide) (by decide) (by decide) (by decide)).setT g3 (by decide) (by decide) (by decide) (by decide) (by decide)).setT g4 (by decide) (by decide) (by decide) (by decide) (by decide), ((((T2.km.setN hle h0).setN hle h0).setN hle h0).setN hle h0).setN hle h0, T2.ne, T2.hz, fun _ => ⟨((((iu.setT T2.t (by decide) (by decide)).setT g1 (by decide) (by decide)).setT g2 (by decide) (by decide)).setT g3 (by decide) (by decide)).setT g4 (by decide) (by decide), es⟩, fun h => absurd h (by decide), ((((T2.nm.setT T2.t (by decide) (by decide)).setT g1 (by decide) (by decide)).setT g2 (by decide) (by decide)).setT g3 (by decide) (by decide)).setT g4 (by decide) (by decide)⟩
      rw [hW7] at S7
      clear hW7 T2 iu iv es
      go_wp2
      go_roundw
      case rel => exact ⟨1, by omega, rfl, u, v2, s, s2, S7⟩
      case measure => simp [intOf]
    · obtain ⟨v1, v2, s1, s2, T⟩ := hS
      have c0 := T.g.cell (j := 4) (v := .int .i64 y.op) rfl; have c1 := T.g.cell (j := 5) (v := .int .u64 y.val) rfl; have c2 := T.g.cell (j := 6) (v := .string y.nm) rfl; have c3 := T.g.cell (j := 7) (v := .slice y.ad y.n y.c) rfl
      have hb1 : Below wr.heap.size wr (wr.alloc (.cells #[.int .i64 y.op, .int .u64 y.val, .string y.nm, .slice y.ad y.n y.c] 29)) := (Below.refl _ _).alloc (Nat.le_refl _) _
      have T1 := T.mono hb1
      clear T
      go_wp2_with fail
      refine (cY _ T1.cp T1.km).mono ?_
      rintro e w2 ⟨s, V, rfl, iv, es, C2, k2⟩
      obtain ⟨u, rfl, iu⟩ := iv.vv
      have T2 := T1.step k2 C2
      have h1lt := T2.a.lt
      have h2lt := T2.t.lt
      clear c0 c1 c2 c3 T1 hb1 C2 k2
      have t0 := T2.t.cell (j := 5) (v := .slice none 0 0) rfl; have t1 := T2.t.cell (j := 6) (v := .int .i64 0) rfl; have t2 := T2.t.cell (j := 7) (v := .int .i64 0) rfl; have t3 := T2.t.cell (j := 8) (v := .int .i64 0) rfl; have t4 := T2.t.cell (j := 9) (v := .int .i64 0) rfl
      have tf := T2.t.free
      obtain ⟨W7, hW7⟩ : ∃ W7, W7 = (((((w2).setCell ⟨w.heap.size + 1 + 1, 5, none⟩ (.slice (some ⟨u.bx, 0, none⟩) 1 u.c)).setCell ⟨w.heap.size + 1 + 1, 6, none⟩ (.int .i64 u.k0)).setCell ⟨w.heap.size + 1 + 1, 7, none⟩ (.int .i64 u.k1)).setCell ⟨w.heap.size + 1 + 1, 8, none⟩ (.int .i64 u.k2)).setCell ⟨w.heap.size + 1 + 1, 9, none⟩ (.int .i64 u.k3) := ⟨_, rfl⟩
      have S7 : VaS base w W7 q b p f 11 val bb x y 2 v1 u s1 s (N := N) (mm := mm) (L1 := L1) (L2 := L2) (rows := rows) (rows1 := rows1) (rows2 := rows2) (S := S) (S1 := S1) (S2 := S2) := by
        rw [hW7]
        have g1 := T2.t.set 5 (.slice (some ⟨u.bx, 0, none⟩) 1 u.c)
        have g2 := g1.set 6 (.int .i64 u.k0)
        have g3 := g2.set 7 (.int .i64 u.k1)
        have g4 := g3.set 8 (.int .i64 u.k2)
        have g5 := g4.set 9 (.int .i64 u.k3)
        have kS : ∀ s, LinT w2 s → LinT ((((((w2).setCell ⟨w.heap.size + 1 + 1, 5, none⟩ (.slice (some ⟨u.bx, 0, none⟩) 1 u.c)).setCell ⟨w.heap.size + 1 + 1, 6, none⟩ (.int .i64 u.k0)).setCell ⟨w.heap.size + 1 + 1, 7, none⟩ (.int .i64 u.k1)).setCell ⟨w.heap.size + 1 + 1, 8, none⟩ (.int .i64 u.k2)).setCell ⟨w.heap.size + 1 + 1, 9, none⟩ (.int .i64 u.k3)) s := fun s hs => ((((hs.setType T2.t (by decide)).setType g1 (by decide)).setType g2 (by decide)).setType g3 (by decide)).setType g4 (by decide)
        have hle : w.heap.size ≤ w.heap.size + 1 + 1 := by omega
        have h0 := T2.hz
        exact ⟨((((((T2.a).other (by omega) _ _).other (by omega) _ _).other (by omega) _ _).other (by omega) _ _).other (by omega) _ _), ((((((T2.z).other (by omega) _ _).other (by omega) _ _).other (by omega) _ _).other (by omega) _ _).other (by omega) _ _), g5, ((((((T2.g).other (by omega) _ _).other (by omega) _ _).other (by omega) _ _).other (by omega) _ _).other (by omega) _ _), ((((T2.cp.setT T2.t (by decide) (by decide) (by decide) (by decide) (by decide)).setT g1 (by decide) (by decide) (by decide) (by decide) (by decide)).setT g2 (by decide) (by decide) (by decide) (by decide) (by decide)).setT g3 (by decide) (by decide) (by decide) (by decide) (by decide)).setT g4 (by decide) (by decide) (by decide) (by decide) (by decide), ((((T2.km.setN hle h0).setN hle h0).setN hle h0).setN hle h0).setN hle h0, T2.ne, T2.hz, fun h => ⟨(((((T2.i1 (by decide)).1.setT T2.t (by decide) (by decide)).setT g1 (by decide) (by decide)).setT g2 (by decide) (by decide)).setT g3 (by decide) (by decide)).setT g4 (by decide) (by decide), (T2.i1 (by decide)).2⟩, fun _ => ⟨((((iu.setT T2.t (by decide) (by decide)).setT g1 (by decide) (by decide)).setT g2 (by decide) (by decide)).setT g3 (by decide) (by decide)).setT g4 (by decide) (by decide), es⟩, ((((T2.nm.setT T2.t (by decide) (by decide)).setT g1 (by decide) (by decide)).setT g2 (by decide) (by decide)).setT g3 (by decide) (by decide)).setT g4 (by decide) (by decide)⟩
      rw [hW7] at S7
      clear hW7 T2 iu iv es
      go_wp2
      go_roundw
      case rel => exact ⟨2, by omega, rfl, v1, u, s1, s, S7⟩
      case measure => simp [intOf]
    · obtain ⟨v1, v2, s1, s2, T⟩ := hS
      have a0 := T.a.cell (j := 0) (v := .int .i64 11) rfl
      clear cX cY
      go_wp2_with fail
      refine Rel.region_any Tryz.mixed fun w4 hb4 => ?_
      have T4 := T.mono hb4
      clear a0 T hb4
      obtain ⟨i1, e1⟩ := T4.i1 (by decide)
      obtain ⟨i2, e2⟩ := T4.i2 (by decide)
      obtain ⟨cs1, p1, q1, l1⟩ := i1
      obtain ⟨cs2, p2, q2, l2⟩ := i2
      refine Rel.any_held (fun W => W.cell? ⟨w.heap.size, 0, none⟩ = some (.int .i64 11)) 9 (T4.a.cell (j := 0) rfl) fun hH0 => ?_
      refine Rel.tk (v := ?_) 0 ?_ ?_
      rotate_left
      · (intro W hSw; (try dsimp only at hSw); go_simp; try with_reducible rfl)
      try simp only [Act.put, List.setIfInBounds_toArray, List.set_cons_zero, List.set_cons_succ]
      refine Rel.tk (v := ?_) 1 ?_ ?_
      rotate_left
      · (intro W hSw; (try dsimp only at hSw); go_simp; try with_reducible rfl)
      try simp only [Act.put, List.setIfInBounds_toArray, List.set_cons_zero, List.set_cons_succ]
      refine Rel.tk (v := ?_) 2 ?_ ?_
      rotate_left
      · (intro W hSw; (try dsimp only at hSw); go_simp; try with_reducible rfl)
      try simp only [Act.put, List.setIfInBounds_toArray, List.set_cons_zero, List.set_cons_succ]
      refine Rel.tk (v := ?_) 3 ?_ ?_
      rotate_left
      · (intro W hSw; (try dsimp only at hSw); go_simp; try with_reducible rfl)
      try simp only [Act.put, List.setIfInBounds_toArray, List.set_cons_zero, List.set_cons_succ]
      refine Rel.tk (v := ?_) 4 ?_ ?_
      rotate_left
      · (intro W hSw; (try dsimp only at hSw); go_simp; try with_reducible rfl)
      try simp only [Act.put, List.setIfInBounds_toArray, List.set_cons_zero, List.set_cons_succ]
      refine Rel.tk (v := ?_) 7 ?_ ?_
      rotate_left
      · (intro W hSw; (try dsimp only at hSw); go_simp; try with_reducible rfl)
      try simp only [Act.put, List.setIfInBounds_toArray, List.set_cons_zero, List.set_cons_succ]
      refine Rel.heldNext 5 rfl (by kernel_rfl) fun K hK => ?_
      go_simp
      refine (elements2_any w4 _ v1.bx v1.c v2.bx v2.c _ _ _ _ _ _ _ _ cs1 cs2 s1 s2 T4.t p1 q1 p2 q2).mono ?_
      rintro e w5 ⟨bl, rfl, gl, _, hb5⟩
      have A5 := T4.a.mono hb5
      have Z5 := T4.z.mono hb5
      have C5 := T4.cp.mono hb5
      have k5 := T4.km.trans (KM.of_below hb5 T4.cp.lt)
      have l15 := l1.mono hb5
      have l25 := l2.mono hb5
      clear T4 p1 q1 l1 p2 q2 l2 hb5
      refine hK.out _ _ (A5.cell (j := 0) rfl) (fun hH1 => ?_)
      clear hK K
      try simp only [Act.put, List.setIfInBounds_toArray, List.set_cons_zero, List.set_cons_succ]
      refine Rel.heldNext 6 rfl (by kernel_rfl) fun K hK => ?_
      go_simp
      refine (cO w5 bl s1 s2 C5 l15 l25 e1.out e2.out gl).mono ?_
      rintro e w6 ⟨s, rfl, es, hs6, C6, k6⟩
      have A6 := k6.kx.typ _ _ _ A5 (by unfold XCp; decide)
      have Z6 := k6.kx.typ _ _ _ Z5 (by unfold XCp; decide)
      have k16 := k5.trans k6
      clear A5 Z5 C5 k5 k6 gl l15 l25 cO
      refine hK.out _ _ (A6.cell (j := 0) rfl) (fun hH2 => ?_)
      clear hK K
      try simp only [Act.put, List.setIfInBounds_toArray, List.set_cons_zero, List.set_cons_succ]
      refine Rel.heldNext 8 rfl (by kernel_rfl) fun K hK => ?_
      have cS := cscalar_any q 1 s w6 hs6
      unfold lcV at cS
      go_simp
      refine cS.mono ?_
      rintro e w7 ⟨bx, rfl, gx, hs7, hb7⟩
      have A7 := A6.mono hb7
      have Z7 := Z6.mono hb7
      have C7 := C6.mono hb7
      have k7 := k16.trans (KM.of_below hb7 C6.lt)
      have hzl := Z7.lt
      clear A6 Z6 C6 k16 hb7 hs6 cS
      refine hK.out _ _ (A7.cell (j := 0) rfl) (fun hH3 => ?_)
      clear hK K
      try simp only [Act.put, List.setIfInBounds_toArray, List.set_cons_zero, List.set_cons_succ]
      refine Rel.heldLast 9 rfl (by kernel_rfl) rfl (by kernel_rfl) fun K hK => ?_
      have y0 := Z7.cell (j := 0) (v := .slice none 0 0) rfl; have y1 := Z7.cell (j := 1) (v := .int .i64 0) rfl; have y2 := Z7.cell (j := 2) (v := .int .i64 0) rfl; have y3 := Z7.cell (j := 3) (v := .int .i64 0) rfl; have y4 := Z7.cell (j := 4) (v := .int .i64 0) rfl
      have zf := Z7.free
      obtain ⟨W9, hW9⟩ : ∃ W9, W9 = (((((w7).setCell ⟨w.heap.size + 1, 0, none⟩ (.slice (some ⟨bx, 0, none⟩) 1 1)).setCell ⟨w.heap.size + 1, 1, none⟩ (.int .i64 1)).setCell ⟨w.heap.size + 1, 2, none⟩ (.int .i64 0)).setCell ⟨w.heap.size + 1, 3, none⟩ (.int .i64 0)).setCell ⟨w.heap.size + 1, 4, none⟩ (.int .i64 0) := ⟨_, rfl⟩
      have F9 : RetVl base w q b p f rows3 S3 L3 (.returned (.agg #[.slice (some ⟨bx, 0, none⟩) 1 1, .int .i64 1, .int .i64 0, .int .i64 0, .int .i64 0])) W9 ∧ Blk W9 (w.heap.size + 1) #[.slice (some ⟨bx, 0, none⟩) 1 1, .int .i64 1, .int .i64 0, .int .i64 0, .int .i64 0] 119 := by
        rw [hW9]
        have g1 := Z7.set 0 (.slice (some ⟨bx, 0, none⟩) 1 1)
        have g2 := g1.set 1 (.int .i64 1)
        have g3 := g2.set 2 (.int .i64 0)
        have g4 := g3.set 3 (.int .i64 0)
        have g5 := g4.set 4 (.int .i64 0)
        have hle : w.heap.size ≤ w.heap.size + 1 := by omega
        refine ⟨⟨s, _, rfl, ⟨bx, 1, _, 1, 0, 0, 0, rfl, ((((gx.other (fun e => absurd (blk_type gx (e ▸ Z7)) (by decide)) _ _).other (fun e => absurd (blk_type gx (e ▸ Z7)) (by decide)) _ _).other (fun e => absurd (blk_type gx (e ▸ Z7)) (by decide)) _ _).other (fun e => absurd (blk_type gx (e ▸ Z7)) (by decide)) _ _).other (fun e => absurd (blk_type gx (e ▸ Z7)) (by decide)) _ _, rfl, ((((hs7.setType Z7 (by decide)).setType g1 (by decide)).setType g2 (by decide)).setType g3 (by decide)).setType g4 (by decide)⟩, es, ((((C7.setT Z7 (by decide) (by decide) (by decide) (by decide) (by decide)).setT g1 (by decide) (by decide) (by decide) (by decide) (by decide)).setT g2 (by decide) (by decide) (by decide) (by decide) (by decide)).setT g3 (by decide) (by decide) (by decide) (by decide) (by decide)).setT g4 (by decide) (by decide) (by decide) (by decide) (by decide), ((((k7.setN hle hz).setN hle hz).setN hle hz).setN hle hz).setN hle hz⟩, ?_⟩
        exact g5
      obtain ⟨F9, g5⟩ := F9
      have z0 := g5.cell (j := 0) (v := .slice (some ⟨bx, 0, none⟩) 1 1) rfl; have z1 := g5.cell (j := 1) (v := .int .i64 1) rfl; have z2 := g5.cell (j := 2) (v := .int .i64 0) rfl; have z3 := g5.cell (j := 3) (v := .int .i64 0) rfl; have z4 := g5.cell (j := 4) (v := .int .i64 0) rfl
      clear gx hs7 A7 Z7 C7 k7 es g5
      go_simp
      rw [← hW9]
      refine hK.out _ _ ?_
      clear hK K hH0 hH1 hH2 hH3 y0 y1 y2 y3 y4 zf hW9
      go_wp2
      exact bodyPost_ret (v := .agg #[.slice (some ⟨bx, 0, none⟩) 1 1, .int .i64 1, .int .i64 0, .int .i64 0, .int .i64 0]) (by simp [results, Tryz.results44, go_sem, z0, z1, z2, z3, z4]) rfl F9
set_option maxRecDepth 10000 in
set_option maxHeartbeats 64000000 in
theorem cval_bin14 {base q b f : Nat} {w : World} {p rows rows1 rows2 rows3 : Int} {S S1 S2 S3 : St} {L1 L2 L3 : Lin} {N : List (ByteArray × Lin)} {mm : Nat} (val : Int) (bb : Nat) (x y : Ev) (h : CP base w q b p f rows S) (hm : NmP w mm N)
    (g : Blk w bb #[.int .i64 x.op, .int .u64 x.val, .string x.nm, .slice x.ad x.n x.c, .int .i64 y.op, .int .u64 y.val, .string y.nm, .slice y.ad y.n y.c] 29)
    (cX : ∀ W, CP base W q b p f rows S → KM base w W → Calls Tryz.prog 44 #[.pointer (some ⟨q, 0, none⟩), evV x, .map (some mm)] W (RetVl base W q b p f rows1 S1 L1)) (cY : ∀ W, CP base W q b p f rows1 S1 → KM base w W → Calls Tryz.prog 44 #[.pointer (some ⟨q, 0, none⟩), evV y, .map (some mm)] W (RetVl base W q b p f rows2 S2 L2))
    (cO : ∀ W bl (x y : Lc), CP base W q b p f rows2 S2 → LinT W x → LinT W y → x.l = L1 → y.l = L2 → Blk W bl #[lcV x, lcV y] 95 → Calls Tryz.prog 98 #[.pointer (some ⟨q, 0, none⟩), .int .i64 14, .slice (some ⟨bl, 0, none⟩) 2 2] W (RetCB base W q b p f rows3 S3 L3)) :
    Calls Tryz.prog 44 #[.pointer (some ⟨q, 0, none⟩), evV ⟨14, val, ⟨#[]⟩, some ⟨bb, 0, none⟩, 2, 2⟩, .map (some mm)] w (RetVl base w q b p f rows3 S3 L3) := by
  have m2 := mkVl2
  obtain ⟨op, hop⟩ : ∃ op : Int, op = 14 := ⟨_, rfl⟩
  have hz := h.lt
  unfold evV at *
  go_enter Tryz.func44, Tryz.ntmps44
  go_wp2_with fail
  refine name_world fun W hN => ?_
  have hB : Below w.heap.size w W := by rw [hN]; exact (((Below.refl _ _).alloc (Nat.le_refl _) _).alloc (by simp) _).alloc (by simp; omega) _
  have gA : Blk W w.heap.size #[.int .i64 14, .int .u64 val, .string ⟨#[]⟩, .slice (some ⟨bb, 0, none⟩) 2 2] 29 := by rw [hN]; exact ((Blk.newAt rfl).alloc _).alloc _
  have gZ : Blk W (w.heap.size + 1) #[.slice none 0 0, .int .i64 0, .int .i64 0, .int .i64 0, .int .i64 0] 119 := by rw [hN]; exact (Blk.newAt (by simp)).alloc _
  have gT : Blk W (w.heap.size + 1 + 1) #[.slice none 0 0, .int .i64 0, .int .i64 0, .int .i64 0, .int .i64 0, .slice none 0 0, .int .i64 0, .int .i64 0, .int .i64 0, .int .i64 0] 119 := by rw [hN]; exact Blk.newAt (by simp)
  have hblt := g.lt
  have hmlt := hm.lt
  have S0 : VaS base w W q b p f 14 val bb x y 0 ⟨0, 0, 0, 0, 0, 0⟩ ⟨0, 0, 0, 0, 0, 0⟩ ⟨none, 0, []⟩ ⟨none, 0, []⟩ (N := N) (mm := mm) (L1 := L1) (L2 := L2) (rows := rows) (rows1 := rows1) (rows2 := rows2) (S := S) (S1 := S1) (S2 := S2) :=
    ⟨gA, gZ, gT, g.mono hB, h.mono hB, KM.of_below hB hz, by omega, hz, fun h => absurd h (by decide), fun h => absurd h (by decide), hm.mono hB⟩
  clear hN m2 gA gZ gT hB h g hm
  go_loopw [53] (fun t53 wr => ∃ i : Nat, i ≤ 2 ∧ t53 = .int .i64 i ∧ ∃ v1 v2 s1 s2, VaS base w wr q b p f 14 val bb x y i v1 v2 s1 s2 (N := N) (mm := mm) (L1 := L1) (L2 := L2) (rows := rows) (rows1 := rows1) (rows2 := rows2) (S := S) (S1 := S1) (S2 := S2)) (fun t53 _ => 2 - (intOf t53).toNat)
  case atStart => exact ⟨0, by omega, rfl, _, _, _, _, S0⟩
  case round =>
    clear S0
    obtain ⟨i, hi, rfl, hS⟩ := hrel
    rcases (show i = 0 ∨ i = 1 ∨ i = 2 by omega) with rfl | rfl | rfl
    · obtain ⟨v1, v2, s1, s2, T⟩ := hS
      have c0 := T.g.cell (j := 0) (v := .int .i64 x.op) rfl; have c1 := T.g.cell (j := 1) (v := .int .u64 x.val) rfl; have c2 := T.g.cell (j := 2) (v := .string x.nm) rfl; have c3 := T.g.cell (j := 3) (v := .slice x.ad x.n x.c) rfl
      have hb1 : Below wr.heap.size wr (wr.alloc (.cells #[.int .i64 x.op, .int .u64 x.val, .string x.nm, .slice x.ad x.n x.c] 29)) := (Below.refl _ _).alloc (Nat.le_refl _) _
      have T1 := T.mono hb1
      clear T
      go_wp2_with fail
      refine (cX _ T1.cp T1.km).mono ?_
      rintro e w2 ⟨s, V, rfl, iv, es, C2, k2⟩
      obtain ⟨u, rfl, iu⟩ := iv.vv
      have T2 := T1.step k2 C2
      have h1lt := T2.a.lt
      have h2lt := T2.t.lt
      clear c0 c1 c2 c3 T1 hb1 C2 k2
      have t0 := T2.t.cell (j := 0) (v := .slice none 0 0) rfl; have t1 := T2.t.cell (j := 1) (v := .int .i64 0) rfl; have t2 := T2.t.cell (j := 2) (v := .int .i64 0) rfl; have t3 := T2.t.cell (j := 3) (v := .int .i64 0) rfl; have t4 := T2.t.cell (j := 4) (v := .int .i64 0) rfl
      have tf := T2.t.free
      obtain ⟨W7, hW7⟩ : ∃ W7, W7 = (((((w2).setCell ⟨w.heap.size + 1 + 1, 0, none⟩ (.slice (some ⟨u.bx, 0, none⟩) 1 u.c)).setCell ⟨w.heap.size + 1 + 1, 1, none⟩ (.int .i64 u.k0)).setCell ⟨w.heap.size + 1 + 1, 2, none⟩ (.int .i64 u.k1)).setCell ⟨w.heap.size + 1 + 1, 3, none⟩ (.int .i64 u.k2)).setCell ⟨w.heap.size + 1 + 1, 4, none⟩ (.int .i64 u.k3) := ⟨_, rfl⟩
      have S7 : VaS base w W7 q b p f 14 val bb x y 1 u v2 s s2 (N := N) (mm := mm) (L1 := L1) (L2 := L2) (rows := rows) (rows1 := rows1) (rows2 := rows2) (S := S) (S1 := S1) (S2 := S2) := by
        rw [hW7]
        have g1 := T2.t.set 0 (.slice (some ⟨u.bx, 0, none⟩) 1 u.c)
        have g2 := g1.set 1 (.int .i64 u.k0)
        have g3 := g2.set 2 (.int .i64 u.k1)
        have g4 := g3.set 3 (.int .i64 u.k2)
        have g5 := g4.set 4 (.int .i64 u.k3)
        have kS : ∀ s, LinT w2 s → LinT ((((((w2).setCell ⟨w.heap.size + 1 + 1, 0, none⟩ (.slice (some ⟨u.bx, 0, none⟩) 1 u.c)).setCell ⟨w.heap.size + 1 + 1, 1, none⟩ (.int .i64 u.k0)).setCell ⟨w.heap.size + 1 + 1, 2, none⟩ (.int .i64 u.k1)).setCell ⟨w.heap.size + 1 + 1, 3, none⟩ (.int .i64 u.k2)).setCell ⟨w.heap.size + 1 + 1, 4, none⟩ (.int .i64 u.k3)) s := fun s hs => ((((hs.setType T2.t (by decide)).setType g1 (by decide)).setType g2 (by decide)).setType g3 (by decide)).setType g4 (by decide)
        have hle : w.heap.size ≤ w.heap.size + 1 + 1 := by omega
        have h0 := T2.hz
        exact ⟨((((((T2.a).other (by omega) _ _).other (by omega) _ _).other (by omega) _ _).other (by omega) _ _).other (by omega) _ _), ((((((T2.z).other (by omega) _ _).other (by omega) _ _).other (by omega) _ _).other (by omega) _ _).other (by omega) _ _), g5, ((((((T2.g).other (by omega) _ _).other (by omega) _ _).other (by omega) _ _).other (by omega) _ _).other (by omega) _ _), ((((T2.cp.setT T2.t (by decide) (by decide) (by decide) (by decide) (by decide)).setT g1 (by decide) (by decide) (by decide) (by decide) (by decide)).setT g2 (by decide) (by decide) (by decide) (by decide) (by decide)).setT g3 (by decide) (by decide) (by decide) (by decide) (by decide)).setT g4 (by decide) (by decide) (by decide) (by decide) (by decide), ((((T2.km.setN hle h0).setN hle h0).setN hle h0).setN hle h0).setN hle h0, T2.ne, T2.hz, fun _ => ⟨((((iu.setT T2.t (by decide) (by decide)).setT g1 (by decide) (by decide)).setT g2 (by decide) (by decide)).setT g3 (by decide) (by decide)).setT g4 (by decide) (by decide), es⟩, fun h => absurd h (by decide), ((((T2.nm.setT T2.t (by decide) (by decide)).setT g1 (by decide) (by decide)).setT g2 (by decide) (by decide)).setT g3 (by decide) (by decide)).setT g4 (by decide) (by decide)⟩
      rw [hW7] at S7
      clear hW7 T2 iu iv es
      go_wp2
      go_roundw
      case rel => exact ⟨1, by omega, rfl, u, v2, s, s2, S7⟩
      case measure => simp [intOf]
    · obtain ⟨v1, v2, s1, s2, T⟩ := hS
      have c0 := T.g.cell (j := 4) (v := .int .i64 y.op) rfl; have c1 := T.g.cell (j := 5) (v := .int .u64 y.val) rfl; have c2 := T.g.cell (j := 6) (v := .string y.nm) rfl; have c3 := T.g.cell (j := 7) (v := .slice y.ad y.n y.c) rfl
      have hb1 : Below wr.heap.size wr (wr.alloc (.cells #[.int .i64 y.op, .int .u64 y.val, .string y.nm, .slice y.ad y.n y.c] 29)) := (Below.refl _ _).alloc (Nat.le_refl _) _
      have T1 := T.mono hb1
      clear T
      go_wp2_with fail
      refine (cY _ T1.cp T1.km).mono ?_
      rintro e w2 ⟨s, V, rfl, iv, es, C2, k2⟩
      obtain ⟨u, rfl, iu⟩ := iv.vv
      have T2 := T1.step k2 C2
      have h1lt := T2.a.lt
      have h2lt := T2.t.lt
      clear c0 c1 c2 c3 T1 hb1 C2 k2
      have t0 := T2.t.cell (j := 5) (v := .slice none 0 0) rfl; have t1 := T2.t.cell (j := 6) (v := .int .i64 0) rfl; have t2 := T2.t.cell (j := 7) (v := .int .i64 0) rfl; have t3 := T2.t.cell (j := 8) (v := .int .i64 0) rfl; have t4 := T2.t.cell (j := 9) (v := .int .i64 0) rfl
      have tf := T2.t.free
      obtain ⟨W7, hW7⟩ : ∃ W7, W7 = (((((w2).setCell ⟨w.heap.size + 1 + 1, 5, none⟩ (.slice (some ⟨u.bx, 0, none⟩) 1 u.c)).setCell ⟨w.heap.size + 1 + 1, 6, none⟩ (.int .i64 u.k0)).setCell ⟨w.heap.size + 1 + 1, 7, none⟩ (.int .i64 u.k1)).setCell ⟨w.heap.size + 1 + 1, 8, none⟩ (.int .i64 u.k2)).setCell ⟨w.heap.size + 1 + 1, 9, none⟩ (.int .i64 u.k3) := ⟨_, rfl⟩
      have S7 : VaS base w W7 q b p f 14 val bb x y 2 v1 u s1 s (N := N) (mm := mm) (L1 := L1) (L2 := L2) (rows := rows) (rows1 := rows1) (rows2 := rows2) (S := S) (S1 := S1) (S2 := S2) := by
        rw [hW7]
        have g1 := T2.t.set 5 (.slice (some ⟨u.bx, 0, none⟩) 1 u.c)
        have g2 := g1.set 6 (.int .i64 u.k0)
        have g3 := g2.set 7 (.int .i64 u.k1)
        have g4 := g3.set 8 (.int .i64 u.k2)
        have g5 := g4.set 9 (.int .i64 u.k3)
        have kS : ∀ s, LinT w2 s → LinT ((((((w2).setCell ⟨w.heap.size + 1 + 1, 5, none⟩ (.slice (some ⟨u.bx, 0, none⟩) 1 u.c)).setCell ⟨w.heap.size + 1 + 1, 6, none⟩ (.int .i64 u.k0)).setCell ⟨w.heap.size + 1 + 1, 7, none⟩ (.int .i64 u.k1)).setCell ⟨w.heap.size + 1 + 1, 8, none⟩ (.int .i64 u.k2)).setCell ⟨w.heap.size + 1 + 1, 9, none⟩ (.int .i64 u.k3)) s := fun s hs => ((((hs.setType T2.t (by decide)).setType g1 (by decide)).setType g2 (by decide)).setType g3 (by decide)).setType g4 (by decide)
        have hle : w.heap.size ≤ w.heap.size + 1 + 1 := by omega
        have h0 := T2.hz
        exact ⟨((((((T2.a).other (by omega) _ _).other (by omega) _ _).other (by omega) _ _).other (by omega) _ _).other (by omega) _ _), ((((((T2.z).other (by omega) _ _).other (by omega) _ _).other (by omega) _ _).other (by omega) _ _).other (by omega) _ _), g5, ((((((T2.g).other (by omega) _ _).other (by omega) _ _).other (by omega) _ _).other (by omega) _ _).other (by omega) _ _), ((((T2.cp.setT T2.t (by decide) (by decide) (by decide) (by decide) (by decide)).setT g1 (by decide) (by decide) (by decide) (by decide) (by decide)).setT g2 (by decide) (by decide) (by decide) (by decide) (by decide)).setT g3 (by decide) (by decide) (by decide) (by decide) (by decide)).setT g4 (by decide) (by decide) (by decide) (by decide) (by decide), ((((T2.km.setN hle h0).setN hle h0).setN hle h0).setN hle h0).setN hle h0, T2.ne, T2.hz, fun h => ⟨(((((T2.i1 (by decide)).1.setT T2.t (by decide) (by decide)).setT g1 (by decide) (by decide)).setT g2 (by decide) (by decide)).setT g3 (by decide) (by decide)).setT g4 (by decide) (by decide), (T2.i1 (by decide)).2⟩, fun _ => ⟨((((iu.setT T2.t (by decide) (by decide)).setT g1 (by decide) (by decide)).setT g2 (by decide) (by decide)).setT g3 (by decide) (by decide)).setT g4 (by decide) (by decide), es⟩, ((((T2.nm.setT T2.t (by decide) (by decide)).setT g1 (by decide) (by decide)).setT g2 (by decide) (by decide)).setT g3 (by decide) (by decide)).setT g4 (by decide) (by decide)⟩
      rw [hW7] at S7
      clear hW7 T2 iu iv es
      go_wp2
      go_roundw
      case rel => exact ⟨2, by omega, rfl, v1, u, s1, s, S7⟩
      case measure => simp [intOf]
    · obtain ⟨v1, v2, s1, s2, T⟩ := hS
      have a0 := T.a.cell (j := 0) (v := .int .i64 14) rfl
      clear cX cY
      go_wp2_with fail
      refine Rel.region_any Tryz.mixed fun w4 hb4 => ?_
      have T4 := T.mono hb4
      clear a0 T hb4
      obtain ⟨i1, e1⟩ := T4.i1 (by decide)
      obtain ⟨i2, e2⟩ := T4.i2 (by decide)
      obtain ⟨cs1, p1, q1, l1⟩ := i1
      obtain ⟨cs2, p2, q2, l2⟩ := i2
      refine Rel.any_held (fun W => W.cell? ⟨w.heap.size, 0, none⟩ = some (.int .i64 14)) 9 (T4.a.cell (j := 0) rfl) fun hH0 => ?_
      refine Rel.tk (v := ?_) 0 ?_ ?_
      rotate_left
      · (intro W hSw; (try dsimp only at hSw); go_simp; try with_reducible rfl)
      try simp only [Act.put, List.setIfInBounds_toArray, List.set_cons_zero, List.set_cons_succ]
      refine Rel.tk (v := ?_) 1 ?_ ?_
      rotate_left
      · (intro W hSw; (try dsimp only at hSw); go_simp; try with_reducible rfl)
      try simp only [Act.put, List.setIfInBounds_toArray, List.set_cons_zero, List.set_cons_succ]
      refine Rel.tk (v := ?_) 2 ?_ ?_
      rotate_left
      · (intro W hSw; (try dsimp only at hSw); go_simp; try with_reducible rfl)
      try simp only [Act.put, List.setIfInBounds_toArray, List.set_cons_zero, List.set_cons_succ]
      refine Rel.tk (v := ?_) 3 ?_ ?_
      rotate_left
      · (intro W hSw; (try dsimp only at hSw); go_simp; try with_reducible rfl)
      try simp only [Act.put, List.setIfInBounds_toArray, List.set_cons_zero, List.set_cons_succ]
      refine Rel.tk (v := ?_) 4 ?_ ?_
      rotate_left
      · (intro W hSw; (try dsimp only at hSw); go_simp; try with_reducible rfl)
      try simp only [Act.put, List.setIfInBounds_toArray, List.set_cons_zero, List.set_cons_succ]
      refine Rel.tk (v := ?_) 7 ?_ ?_
      rotate_left
      · (intro W hSw; (try dsimp only at hSw); go_simp; try with_reducible rfl)
      try simp only [Act.put, List.setIfInBounds_toArray, List.set_cons_zero, List.set_cons_succ]
      refine Rel.heldNext 5 rfl (by kernel_rfl) fun K hK => ?_
      go_simp
      refine (elements2_any w4 _ v1.bx v1.c v2.bx v2.c _ _ _ _ _ _ _ _ cs1 cs2 s1 s2 T4.t p1 q1 p2 q2).mono ?_
      rintro e w5 ⟨bl, rfl, gl, _, hb5⟩
      have A5 := T4.a.mono hb5
      have Z5 := T4.z.mono hb5
      have C5 := T4.cp.mono hb5
      have k5 := T4.km.trans (KM.of_below hb5 T4.cp.lt)
      have l15 := l1.mono hb5
      have l25 := l2.mono hb5
      clear T4 p1 q1 l1 p2 q2 l2 hb5
      refine hK.out _ _ (A5.cell (j := 0) rfl) (fun hH1 => ?_)
      clear hK K
      try simp only [Act.put, List.setIfInBounds_toArray, List.set_cons_zero, List.set_cons_succ]
      refine Rel.heldNext 6 rfl (by kernel_rfl) fun K hK => ?_
      go_simp
      refine (cO w5 bl s1 s2 C5 l15 l25 e1.out e2.out gl).mono ?_
      rintro e w6 ⟨s, rfl, es, hs6, C6, k6⟩
      have A6 := k6.kx.typ _ _ _ A5 (by unfold XCp; decide)
      have Z6 := k6.kx.typ _ _ _ Z5 (by unfold XCp; decide)
      have k16 := k5.trans k6
      clear A5 Z5 C5 k5 k6 gl l15 l25 cO
      refine hK.out _ _ (A6.cell (j := 0) rfl) (fun hH2 => ?_)
      clear hK K
      try simp only [Act.put, List.setIfInBounds_toArray, List.set_cons_zero, List.set_cons_succ]
      refine Rel.heldNext 8 rfl (by kernel_rfl) fun K hK => ?_
      have cS := cscalar_any q 2 s w6 hs6
      unfold lcV at cS
      go_simp
      refine cS.mono ?_
      rintro e w7 ⟨bx, rfl, gx, hs7, hb7⟩
      have A7 := A6.mono hb7
      have Z7 := Z6.mono hb7
      have C7 := C6.mono hb7
      have k7 := k16.trans (KM.of_below hb7 C6.lt)
      have hzl := Z7.lt
      clear A6 Z6 C6 k16 hb7 hs6 cS
      refine hK.out _ _ (A7.cell (j := 0) rfl) (fun hH3 => ?_)
      clear hK K
      try simp only [Act.put, List.setIfInBounds_toArray, List.set_cons_zero, List.set_cons_succ]
      refine Rel.heldLast 9 rfl (by kernel_rfl) rfl (by kernel_rfl) fun K hK => ?_
      have y0 := Z7.cell (j := 0) (v := .slice none 0 0) rfl; have y1 := Z7.cell (j := 1) (v := .int .i64 0) rfl; have y2 := Z7.cell (j := 2) (v := .int .i64 0) rfl; have y3 := Z7.cell (j := 3) (v := .int .i64 0) rfl; have y4 := Z7.cell (j := 4) (v := .int .i64 0) rfl
      have zf := Z7.free
      obtain ⟨W9, hW9⟩ : ∃ W9, W9 = (((((w7).setCell ⟨w.heap.size + 1, 0, none⟩ (.slice (some ⟨bx, 0, none⟩) 1 1)).setCell ⟨w.heap.size + 1, 1, none⟩ (.int .i64 2)).setCell ⟨w.heap.size + 1, 2, none⟩ (.int .i64 0)).setCell ⟨w.heap.size + 1, 3, none⟩ (.int .i64 0)).setCell ⟨w.heap.size + 1, 4, none⟩ (.int .i64 0) := ⟨_, rfl⟩
      have F9 : RetVl base w q b p f rows3 S3 L3 (.returned (.agg #[.slice (some ⟨bx, 0, none⟩) 1 1, .int .i64 2, .int .i64 0, .int .i64 0, .int .i64 0])) W9 ∧ Blk W9 (w.heap.size + 1) #[.slice (some ⟨bx, 0, none⟩) 1 1, .int .i64 2, .int .i64 0, .int .i64 0, .int .i64 0] 119 := by
        rw [hW9]
        have g1 := Z7.set 0 (.slice (some ⟨bx, 0, none⟩) 1 1)
        have g2 := g1.set 1 (.int .i64 2)
        have g3 := g2.set 2 (.int .i64 0)
        have g4 := g3.set 3 (.int .i64 0)
        have g5 := g4.set 4 (.int .i64 0)
        have hle : w.heap.size ≤ w.heap.size + 1 := by omega
        refine ⟨⟨s, _, rfl, ⟨bx, 1, _, 2, 0, 0, 0, rfl, ((((gx.other (fun e => absurd (blk_type gx (e ▸ Z7)) (by decide)) _ _).other (fun e => absurd (blk_type gx (e ▸ Z7)) (by decide)) _ _).other (fun e => absurd (blk_type gx (e ▸ Z7)) (by decide)) _ _).other (fun e => absurd (blk_type gx (e ▸ Z7)) (by decide)) _ _).other (fun e => absurd (blk_type gx (e ▸ Z7)) (by decide)) _ _, rfl, ((((hs7.setType Z7 (by decide)).setType g1 (by decide)).setType g2 (by decide)).setType g3 (by decide)).setType g4 (by decide)⟩, es, ((((C7.setT Z7 (by decide) (by decide) (by decide) (by decide) (by decide)).setT g1 (by decide) (by decide) (by decide) (by decide) (by decide)).setT g2 (by decide) (by decide) (by decide) (by decide) (by decide)).setT g3 (by decide) (by decide) (by decide) (by decide) (by decide)).setT g4 (by decide) (by decide) (by decide) (by decide) (by decide), ((((k7.setN hle hz).setN hle hz).setN hle hz).setN hle hz).setN hle hz⟩, ?_⟩
        exact g5
      obtain ⟨F9, g5⟩ := F9
      have z0 := g5.cell (j := 0) (v := .slice (some ⟨bx, 0, none⟩) 1 1) rfl; have z1 := g5.cell (j := 1) (v := .int .i64 2) rfl; have z2 := g5.cell (j := 2) (v := .int .i64 0) rfl; have z3 := g5.cell (j := 3) (v := .int .i64 0) rfl; have z4 := g5.cell (j := 4) (v := .int .i64 0) rfl
      clear gx hs7 A7 Z7 C7 k7 es g5
      go_simp
      rw [← hW9]
      refine hK.out _ _ ?_
      clear hK K hH0 hH1 hH2 hH3 y0 y1 y2 y3 y4 zf hW9
      go_wp2
      exact bodyPost_ret (v := .agg #[.slice (some ⟨bx, 0, none⟩) 1 1, .int .i64 2, .int .i64 0, .int .i64 0, .int .i64 0]) (by simp [results, Tryz.results44, go_sem, z0, z1, z2, z3, z4]) rfl F9
set_option maxRecDepth 10000 in
set_option maxHeartbeats 64000000 in
theorem cval_bin6 {base q b f : Nat} {w : World} {p rows rows1 rows2 rows3 : Int} {S S1 S2 S3 : St} {L1 L2 L3 : Lin} {N : List (ByteArray × Lin)} {mm : Nat} (val : Int) (bb : Nat) (x y : Ev) (h : CP base w q b p f rows S) (hm : NmP w mm N)
    (g : Blk w bb #[.int .i64 x.op, .int .u64 x.val, .string x.nm, .slice x.ad x.n x.c, .int .i64 y.op, .int .u64 y.val, .string y.nm, .slice y.ad y.n y.c] 29)
    (cX : ∀ W, CP base W q b p f rows S → KM base w W → Calls Tryz.prog 44 #[.pointer (some ⟨q, 0, none⟩), evV x, .map (some mm)] W (RetVl base W q b p f rows1 S1 L1)) (cY : ∀ W, CP base W q b p f rows1 S1 → KM base w W → Calls Tryz.prog 44 #[.pointer (some ⟨q, 0, none⟩), evV y, .map (some mm)] W (RetVl base W q b p f rows2 S2 L2))
    (cO : ∀ W bl (x y : Lc), CP base W q b p f rows2 S2 → LinT W x → LinT W y → x.l = L1 → y.l = L2 → Blk W bl #[lcV x, lcV y] 95 → Calls Tryz.prog 92 #[.pointer (some ⟨q, 0, none⟩), .int .u64 val, .slice (some ⟨bl, 0, none⟩) 2 2] W (RetCB base W q b p f rows3 S3 L3)) :
    Calls Tryz.prog 44 #[.pointer (some ⟨q, 0, none⟩), evV ⟨6, val, ⟨#[]⟩, some ⟨bb, 0, none⟩, 2, 2⟩, .map (some mm)] w (RetVl base w q b p f rows3 S3 L3) := by
  have m2 := mkVl2
  obtain ⟨op, hop⟩ : ∃ op : Int, op = 6 := ⟨_, rfl⟩
  have hz := h.lt
  unfold evV at *
  go_enter Tryz.func44, Tryz.ntmps44
  go_wp2_with fail
  refine name_world fun W hN => ?_
  have hB : Below w.heap.size w W := by rw [hN]; exact (((Below.refl _ _).alloc (Nat.le_refl _) _).alloc (by simp) _).alloc (by simp; omega) _
  have gA : Blk W w.heap.size #[.int .i64 6, .int .u64 val, .string ⟨#[]⟩, .slice (some ⟨bb, 0, none⟩) 2 2] 29 := by rw [hN]; exact ((Blk.newAt rfl).alloc _).alloc _
  have gZ : Blk W (w.heap.size + 1) #[.slice none 0 0, .int .i64 0, .int .i64 0, .int .i64 0, .int .i64 0] 119 := by rw [hN]; exact (Blk.newAt (by simp)).alloc _
  have gT : Blk W (w.heap.size + 1 + 1) #[.slice none 0 0, .int .i64 0, .int .i64 0, .int .i64 0, .int .i64 0, .slice none 0 0, .int .i64 0, .int .i64 0, .int .i64 0, .int .i64 0] 119 := by rw [hN]; exact Blk.newAt (by simp)
  have hblt := g.lt
  have hmlt := hm.lt
  have S0 : VaS base w W q b p f 6 val bb x y 0 ⟨0, 0, 0, 0, 0, 0⟩ ⟨0, 0, 0, 0, 0, 0⟩ ⟨none, 0, []⟩ ⟨none, 0, []⟩ (N := N) (mm := mm) (L1 := L1) (L2 := L2) (rows := rows) (rows1 := rows1) (rows2 := rows2) (S := S) (S1 := S1) (S2 := S2) :=
    ⟨gA, gZ, gT, g.mono hB, h.mono hB, KM.of_below hB hz, by omega, hz, fun h => absurd h (by decide), fun h => absurd h (by decide), hm.mono hB⟩
  clear hN m2 gA gZ gT hB h g hm
  go_loopw [53] (fun t53 wr => ∃ i : Nat, i ≤ 2 ∧ t53 = .int .i64 i ∧ ∃ v1 v2 s1 s2, VaS base w wr q b p f 6 val bb x y i v1 v2 s1 s2 (N := N) (mm := mm) (L1 := L1) (L2 := L2) (rows := rows) (rows1 := rows1) (rows2 := rows2) (S := S) (S1 := S1) (S2 := S2)) (fun t53 _ => 2 - (intOf t53).toNat)
  case atStart => exact ⟨0, by omega, rfl, _, _, _, _, S0⟩
  case round =>
    clear S0
    obtain ⟨i, hi, rfl, hS⟩ := hrel
    rcases (show i = 0 ∨ i = 1 ∨ i = 2 by omega) with rfl | rfl | rfl
    · obtain ⟨v1, v2, s1, s2, T⟩ := hS
      have c0 := T.g.cell (j := 0) (v := .int .i64 x.op) rfl; have c1 := T.g.cell (j := 1) (v := .int .u64 x.val) rfl; have c2 := T.g.cell (j := 2) (v := .string x.nm) rfl; have c3 := T.g.cell (j := 3) (v := .slice x.ad x.n x.c) rfl
      have hb1 : Below wr.heap.size wr (wr.alloc (.cells #[.int .i64 x.op, .int .u64 x.val, .string x.nm, .slice x.ad x.n x.c] 29)) := (Below.refl _ _).alloc (Nat.le_refl _) _
      have T1 := T.mono hb1
      clear T
      go_wp2_with fail
      refine (cX _ T1.cp T1.km).mono ?_
      rintro e w2 ⟨s, V, rfl, iv, es, C2, k2⟩
      obtain ⟨u, rfl, iu⟩ := iv.vv
      have T2 := T1.step k2 C2
      have h1lt := T2.a.lt
      have h2lt := T2.t.lt
      clear c0 c1 c2 c3 T1 hb1 C2 k2
      have t0 := T2.t.cell (j := 0) (v := .slice none 0 0) rfl; have t1 := T2.t.cell (j := 1) (v := .int .i64 0) rfl; have t2 := T2.t.cell (j := 2) (v := .int .i64 0) rfl; have t3 := T2.t.cell (j := 3) (v := .int .i64 0) rfl; have t4 := T2.t.cell (j := 4) (v := .int .i64 0) rfl
      have tf := T2.t.free
      obtain ⟨W7, hW7⟩ : ∃ W7, W7 = (((((w2).setCell ⟨w.heap.size + 1 + 1, 0, none⟩ (.slice (some ⟨u.bx, 0, none⟩) 1 u.c)).setCell ⟨w.heap.size + 1 + 1, 1, none⟩ (.int .i64 u.k0)).setCell ⟨w.heap.size + 1 + 1, 2, none⟩ (.int .i64 u.k1)).setCell ⟨w.heap.size + 1 + 1, 3, none⟩ (.int .i64 u.k2)).setCell ⟨w.heap.size + 1 + 1, 4, none⟩ (.int .i64 u.k3) := ⟨_, rfl⟩
      have S7 : VaS base w W7 q b p f 6 val bb x y 1 u v2 s s2 (N := N) (mm := mm) (L1 := L1) (L2 := L2) (rows := rows) (rows1 := rows1) (rows2 := rows2) (S := S) (S1 := S1) (S2 := S2) := by
        rw [hW7]
        have g1 := T2.t.set 0 (.slice (some ⟨u.bx, 0, none⟩) 1 u.c)
        have g2 := g1.set 1 (.int .i64 u.k0)
        have g3 := g2.set 2 (.int .i64 u.k1)
        have g4 := g3.set 3 (.int .i64 u.k2)
        have g5 := g4.set 4 (.int .i64 u.k3)
        have kS : ∀ s, LinT w2 s → LinT ((((((w2).setCell ⟨w.heap.size + 1 + 1, 0, none⟩ (.slice (some ⟨u.bx, 0, none⟩) 1 u.c)).setCell ⟨w.heap.size + 1 + 1, 1, none⟩ (.int .i64 u.k0)).setCell ⟨w.heap.size + 1 + 1, 2, none⟩ (.int .i64 u.k1)).setCell ⟨w.heap.size + 1 + 1, 3, none⟩ (.int .i64 u.k2)).setCell ⟨w.heap.size + 1 + 1, 4, none⟩ (.int .i64 u.k3)) s := fun s hs => ((((hs.setType T2.t (by decide)).setType g1 (by decide)).setType g2 (by decide)).setType g3 (by decide)).setType g4 (by decide)
        have hle : w.heap.size ≤ w.heap.size + 1 + 1 := by omega
        have h0 := T2.hz
        exact ⟨((((((T2.a).other (by omega) _ _).other (by omega) _ _).other (by omega) _ _).other (by omega) _ _).other (by omega) _ _), ((((((T2.z).other (by omega) _ _).other (by omega) _ _).other (by omega) _ _).other (by omega) _ _).other (by omega) _ _), g5, ((((((T2.g).other (by omega) _ _).other (by omega) _ _).other (by omega) _ _).other (by omega) _ _).other (by omega) _ _), ((((T2.cp.setT T2.t (by decide) (by decide) (by decide) (by decide) (by decide)).setT g1 (by decide) (by decide) (by decide) (by decide) (by decide)).setT g2 (by decide) (by decide) (by decide) (by decide) (by decide)).setT g3 (by decide) (by decide) (by decide) (by decide) (by decide)).setT g4 (by decide) (by decide) (by decide) (by decide) (by decide), ((((T2.km.setN hle h0).setN hle h0).setN hle h0).setN hle h0).setN hle h0, T2.ne, T2.hz, fun _ => ⟨((((iu.setT T2.t (by decide) (by decide)).setT g1 (by decide) (by decide)).setT g2 (by decide) (by decide)).setT g3 (by decide) (by decide)).setT g4 (by decide) (by decide), es⟩, fun h => absurd h (by decide), ((((T2.nm.setT T2.t (by decide) (by decide)).setT g1 (by decide) (by decide)).setT g2 (by decide) (by decide)).setT g3 (by decide) (by decide)).setT g4 (by decide) (by decide)⟩
      rw [hW7] at S7
      clear hW7 T2 iu iv es
      go_wp2
      go_roundw
      case rel => exact ⟨1, by omega, rfl, u, v2, s, s2, S7⟩
      case measure => simp [intOf]
    · obtain ⟨v1, v2, s1, s2, T⟩ := hS
      have c0 := T.g.cell (j := 4) (v := .int .i64 y.op) rfl; have c1 := T.g.cell (j := 5) (v := .int .u64 y.val) rfl; have c2 := T.g.cell (j := 6) (v := .string y.nm) rfl; have c3 := T.g.cell (j := 7) (v := .slice y.ad y.n y.c) rfl
      have hb1 : Below wr.heap.size wr (wr.alloc (.cells #[.int .i64 y.op, .int .u64 y.val, .string y.nm, .slice y.ad y.n y.c] 29)) := (Below.refl _ _).alloc (Nat.le_refl _) _
      have T1 := T.mono hb1
      clear T
      go_wp2_with fail
      refine (cY _ T1.cp T1.km).mono ?_
      rintro e w2 ⟨s, V, rfl, iv, es, C2, k2⟩
      obtain ⟨u, rfl, iu⟩ := iv.vv
      have T2 := T1.step k2 C2
      have h1lt := T2.a.lt
      have h2lt := T2.t.lt
      clear c0 c1 c2 c3 T1 hb1 C2 k2
      have t0 := T2.t.cell (j := 5) (v := .slice none 0 0) rfl; have t1 := T2.t.cell (j := 6) (v := .int .i64 0) rfl; have t2 := T2.t.cell (j := 7) (v := .int .i64 0) rfl; have t3 := T2.t.cell (j := 8) (v := .int .i64 0) rfl; have t4 := T2.t.cell (j := 9) (v := .int .i64 0) rfl
      have tf := T2.t.free
      obtain ⟨W7, hW7⟩ : ∃ W7, W7 = (((((w2).setCell ⟨w.heap.size + 1 + 1, 5, none⟩ (.slice (some ⟨u.bx, 0, none⟩) 1 u.c)).setCell ⟨w.heap.size + 1 + 1, 6, none⟩ (.int .i64 u.k0)).setCell ⟨w.heap.size + 1 + 1, 7, none⟩ (.int .i64 u.k1)).setCell ⟨w.heap.size + 1 + 1, 8, none⟩ (.int .i64 u.k2)).setCell ⟨w.heap.size + 1 + 1, 9, none⟩ (.int .i64 u.k3) := ⟨_, rfl⟩
      have S7 : VaS base w W7 q b p f 6 val bb x y 2 v1 u s1 s (N := N) (mm := mm) (L1 := L1) (L2 := L2) (rows := rows) (rows1 := rows1) (rows2 := rows2) (S := S) (S1 := S1) (S2 := S2) := by
        rw [hW7]
        have g1 := T2.t.set 5 (.slice (some ⟨u.bx, 0, none⟩) 1 u.c)
        have g2 := g1.set 6 (.int .i64 u.k0)
        have g3 := g2.set 7 (.int .i64 u.k1)
        have g4 := g3.set 8 (.int .i64 u.k2)
        have g5 := g4.set 9 (.int .i64 u.k3)
        have kS : ∀ s, LinT w2 s → LinT ((((((w2).setCell ⟨w.heap.size + 1 + 1, 5, none⟩ (.slice (some ⟨u.bx, 0, none⟩) 1 u.c)).setCell ⟨w.heap.size + 1 + 1, 6, none⟩ (.int .i64 u.k0)).setCell ⟨w.heap.size + 1 + 1, 7, none⟩ (.int .i64 u.k1)).setCell ⟨w.heap.size + 1 + 1, 8, none⟩ (.int .i64 u.k2)).setCell ⟨w.heap.size + 1 + 1, 9, none⟩ (.int .i64 u.k3)) s := fun s hs => ((((hs.setType T2.t (by decide)).setType g1 (by decide)).setType g2 (by decide)).setType g3 (by decide)).setType g4 (by decide)
        have hle : w.heap.size ≤ w.heap.size + 1 + 1 := by omega
        have h0 := T2.hz
        exact ⟨((((((T2.a).other (by omega) _ _).other (by omega) _ _).other (by omega) _ _).other (by omega) _ _).other (by omega) _ _), ((((((T2.z).other (by omega) _ _).other (by omega) _ _).other (by omega) _ _).other (by omega) _ _).other (by omega) _ _), g5, ((((((T2.g).other (by omega) _ _).other (by omega) _ _).other (by omega) _ _).other (by omega) _ _).other (by omega) _ _), ((((T2.cp.setT T2.t (by decide) (by decide) (by decide) (by decide) (by decide)).setT g1 (by decide) (by decide) (by decide) (by decide) (by decide)).setT g2 (by decide) (by decide) (by decide) (by decide) (by decide)).setT g3 (by decide) (by decide) (by decide) (by decide) (by decide)).setT g4 (by decide) (by decide) (by decide) (by decide) (by decide), ((((T2.km.setN hle h0).setN hle h0).setN hle h0).setN hle h0).setN hle h0, T2.ne, T2.hz, fun h => ⟨(((((T2.i1 (by decide)).1.setT T2.t (by decide) (by decide)).setT g1 (by decide) (by decide)).setT g2 (by decide) (by decide)).setT g3 (by decide) (by decide)).setT g4 (by decide) (by decide), (T2.i1 (by decide)).2⟩, fun _ => ⟨((((iu.setT T2.t (by decide) (by decide)).setT g1 (by decide) (by decide)).setT g2 (by decide) (by decide)).setT g3 (by decide) (by decide)).setT g4 (by decide) (by decide), es⟩, ((((T2.nm.setT T2.t (by decide) (by decide)).setT g1 (by decide) (by decide)).setT g2 (by decide) (by decide)).setT g3 (by decide) (by decide)).setT g4 (by decide) (by decide)⟩
      rw [hW7] at S7
      clear hW7 T2 iu iv es
      go_wp2
      go_roundw
      case rel => exact ⟨2, by omega, rfl, v1, u, s1, s, S7⟩
      case measure => simp [intOf]
    · obtain ⟨v1, v2, s1, s2, T⟩ := hS
      have a0 := T.a.cell (j := 0) (v := .int .i64 6) rfl
      clear cX cY
      go_wp2_with fail
      refine Rel.region_any Tryz.mixed fun w4 hb4 => ?_
      have T4 := T.mono hb4
      clear a0 T hb4
      obtain ⟨i1, e1⟩ := T4.i1 (by decide)
      obtain ⟨i2, e2⟩ := T4.i2 (by decide)
      obtain ⟨cs1, p1, q1, l1⟩ := i1
      obtain ⟨cs2, p2, q2, l2⟩ := i2
      refine Rel.any_held (fun W => W.cell? ⟨w.heap.size, 1, none⟩ = some (.int .u64 val)) 9 (T4.a.cell (j := 1) rfl) fun hH0 => ?_
      refine Rel.tk (v := ?_) 0 ?_ ?_
      rotate_left
      · (intro W hSw; (try dsimp only at hSw); go_simp; try with_reducible rfl)
      try simp only [Act.put, List.setIfInBounds_toArray, List.set_cons_zero, List.set_cons_succ]
      refine Rel.tk (v := ?_) 1 ?_ ?_
      rotate_left
      · (intro W hSw; (try dsimp only at hSw); go_simp; try with_reducible rfl)
      try simp only [Act.put, List.setIfInBounds_toArray, List.set_cons_zero, List.set_cons_succ]
      refine Rel.tk (v := ?_) 2 ?_ ?_
      rotate_left
      · (intro W hSw; (try dsimp only at hSw); go_simp; try with_reducible rfl)
      try simp only [Act.put, List.setIfInBounds_toArray, List.set_cons_zero, List.set_cons_succ]
      refine Rel.tk (v := ?_) 3 ?_ ?_
      rotate_left
      · (intro W hSw; (try dsimp only at hSw); go_simp; try with_reducible rfl)
      try simp only [Act.put, List.setIfInBounds_toArray, List.set_cons_zero, List.set_cons_succ]
      refine Rel.tk (v := ?_) 4 ?_ ?_
      rotate_left
      · (intro W hSw; (try dsimp only at hSw); go_simp; try with_reducible rfl)
      try simp only [Act.put, List.setIfInBounds_toArray, List.set_cons_zero, List.set_cons_succ]
      refine Rel.tk (v := ?_) 7 ?_ ?_
      rotate_left
      · (intro W hSw; (try dsimp only at hSw); go_simp; try with_reducible rfl)
      try simp only [Act.put, List.setIfInBounds_toArray, List.set_cons_zero, List.set_cons_succ]
      refine Rel.heldNext 5 rfl (by kernel_rfl) fun K hK => ?_
      go_simp
      refine (elements2_any w4 _ v1.bx v1.c v2.bx v2.c _ _ _ _ _ _ _ _ cs1 cs2 s1 s2 T4.t p1 q1 p2 q2).mono ?_
      rintro e w5 ⟨bl, rfl, gl, _, hb5⟩
      have A5 := T4.a.mono hb5
      have Z5 := T4.z.mono hb5
      have C5 := T4.cp.mono hb5
      have k5 := T4.km.trans (KM.of_below hb5 T4.cp.lt)
      have l15 := l1.mono hb5
      have l25 := l2.mono hb5
      clear T4 p1 q1 l1 p2 q2 l2 hb5
      refine hK.out _ _ (A5.cell (j := 1) rfl) (fun hH1 => ?_)
      clear hK K
      try simp only [Act.put, List.setIfInBounds_toArray, List.set_cons_zero, List.set_cons_succ]
      refine Rel.heldNext 6 rfl (by kernel_rfl) fun K hK => ?_
      go_simp
      refine (cO w5 bl s1 s2 C5 l15 l25 e1.out e2.out gl).mono ?_
      rintro e w6 ⟨s, rfl, es, hs6, C6, k6⟩
      have A6 := k6.kx.typ _ _ _ A5 (by unfold XCp; decide)
      have Z6 := k6.kx.typ _ _ _ Z5 (by unfold XCp; decide)
      have k16 := k5.trans k6
      clear A5 Z5 C5 k5 k6 gl l15 l25 cO
      refine hK.out _ _ (A6.cell (j := 1) rfl) (fun hH2 => ?_)
      clear hK K
      try simp only [Act.put, List.setIfInBounds_toArray, List.set_cons_zero, List.set_cons_succ]
      refine Rel.heldNext 8 rfl (by kernel_rfl) fun K hK => ?_
      have cS := cscalar_any q 1 s w6 hs6
      unfold lcV at cS
      go_simp
      refine cS.mono ?_
      rintro e w7 ⟨bx, rfl, gx, hs7, hb7⟩
      have A7 := A6.mono hb7
      have Z7 := Z6.mono hb7
      have C7 := C6.mono hb7
      have k7 := k16.trans (KM.of_below hb7 C6.lt)
      have hzl := Z7.lt
      clear A6 Z6 C6 k16 hb7 hs6 cS
      refine hK.out _ _ (A7.cell (j := 1) rfl) (fun hH3 => ?_)
      clear hK K
      try simp only [Act.put, List.setIfInBounds_toArray, List.set_cons_zero, List.set_cons_succ]
      refine Rel.heldLast 9 rfl (by kernel_rfl) rfl (by kernel_rfl) fun K hK => ?_
      have y0 := Z7.cell (j := 0) (v := .slice none 0 0) rfl; have y1 := Z7.cell (j := 1) (v := .int .i64 0) rfl; have y2 := Z7.cell (j := 2) (v := .int .i64 0) rfl; have y3 := Z7.cell (j := 3) (v := .int .i64 0) rfl; have y4 := Z7.cell (j := 4) (v := .int .i64 0) rfl
      have zf := Z7.free
      obtain ⟨W9, hW9⟩ : ∃ W9, W9 = (((((w7).setCell ⟨w.heap.size + 1, 0, none⟩ (.slice (some ⟨bx, 0, none⟩) 1 1)).setCell ⟨w.heap.size + 1, 1, none⟩ (.int .i64 1)).setCell ⟨w.heap.size + 1, 2, none⟩ (.int .i64 0)).setCell ⟨w.heap.size + 1, 3, none⟩ (.int .i64 0)).setCell ⟨w.heap.size + 1, 4, none⟩ (.int .i64 0) := ⟨_, rfl⟩
      have F9 : RetVl base w q b p f rows3 S3 L3 (.returned (.agg #[.slice (some ⟨bx, 0, none⟩) 1 1, .int .i64 1, .int .i64 0, .int .i64 0, .int .i64 0])) W9 ∧ Blk W9 (w.heap.size + 1) #[.slice (some ⟨bx, 0, none⟩) 1 1, .int .i64 1, .int .i64 0, .int .i64 0, .int .i64 0] 119 := by
        rw [hW9]
        have g1 := Z7.set 0 (.slice (some ⟨bx, 0, none⟩) 1 1)
        have g2 := g1.set 1 (.int .i64 1)
        have g3 := g2.set 2 (.int .i64 0)
        have g4 := g3.set 3 (.int .i64 0)
        have g5 := g4.set 4 (.int .i64 0)
        have hle : w.heap.size ≤ w.heap.size + 1 := by omega
        refine ⟨⟨s, _, rfl, ⟨bx, 1, _, 1, 0, 0, 0, rfl, ((((gx.other (fun e => absurd (blk_type gx (e ▸ Z7)) (by decide)) _ _).other (fun e => absurd (blk_type gx (e ▸ Z7)) (by decide)) _ _).other (fun e => absurd (blk_type gx (e ▸ Z7)) (by decide)) _ _).other (fun e => absurd (blk_type gx (e ▸ Z7)) (by decide)) _ _).other (fun e => absurd (blk_type gx (e ▸ Z7)) (by decide)) _ _, rfl, ((((hs7.setType Z7 (by decide)).setType g1 (by decide)).setType g2 (by decide)).setType g3 (by decide)).setType g4 (by decide)⟩, es, ((((C7.setT Z7 (by decide) (by decide) (by decide) (by decide) (by decide)).setT g1 (by decide) (by decide) (by decide) (by decide) (by decide)).setT g2 (by decide) (by decide) (by decide) (by decide) (by decide)).setT g3 (by decide) (by decide) (by decide) (by decide) (by decide)).setT g4 (by decide) (by decide) (by decide) (by decide) (by decide), ((((k7.setN hle hz).setN hle hz).setN hle hz).setN hle hz).setN hle hz⟩, ?_⟩
        exact g5
      obtain ⟨F9, g5⟩ := F9
      have z0 := g5.cell (j := 0) (v := .slice (some ⟨bx, 0, none⟩) 1 1) rfl; have z1 := g5.cell (j := 1) (v := .int .i64 1) rfl; have z2 := g5.cell (j := 2) (v := .int .i64 0) rfl; have z3 := g5.cell (j := 3) (v := .int .i64 0) rfl; have z4 := g5.cell (j := 4) (v := .int .i64 0) rfl
      clear gx hs7 A7 Z7 C7 k7 es g5
      go_simp
      rw [← hW9]
      refine hK.out _ _ ?_
      clear hK K hH0 hH1 hH2 hH3 y0 y1 y2 y3 y4 zf hW9
      go_wp2
      exact bodyPost_ret (v := .agg #[.slice (some ⟨bx, 0, none⟩) 1 1, .int .i64 1, .int .i64 0, .int .i64 0, .int .i64 0]) (by simp [results, Tryz.results44, go_sem, z0, z1, z2, z3, z4]) rfl F9
end Go.Proofs.YtalmgeefkcebdaaGreatDoor

