/- The parser: expressions as trees; primary, unary, node, operator. -/
import Derived.Test.YtalmgeefkcebdaaGreatDoorQ16
import Derived.OrdersHeld
import Derived.Deep.RegionHeld
namespace Go.Proofs.YtalmgeefkcebdaaGreatDoor
open Go.RowKit

/-- An expression: a name, or a node of two. -/
inductive Tr where
  | nm (s : ByteArray)
  | bin (op val : Int) (l r : Tr)
/-- The cells of an expression. -/
structure Ev where
  op : Int
  val : Int
  nm : ByteArray
  ad : Option Addr
  n : Nat
  c : Nat
def evV (e : Ev) : Value := .agg #[.int .i64 e.op, .int .u64 e.val, .string e.nm, .slice e.ad e.n e.c]
def Rep (w : World) (P : Nat → Prop) : Tr → Ev → Prop
  | .nm s, e => e = ⟨2, 0, s, none, 0, 0⟩
  | .bin op val l r, e => ∃ (b : Nat) (x y : Ev), e = ⟨op, val, ⟨#[]⟩, some ⟨b, 0, none⟩, 2, 2⟩ ∧ P b ∧ Blk w b #[.int .i64 x.op, .int .u64 x.val, .string x.nm, .slice x.ad x.n x.c, .int .i64 y.op, .int .u64 y.val, .string y.nm, .slice y.ad y.n y.c] 29 ∧ Rep w P l x ∧ Rep w P r y
section
variable {w w' : World} {P Q : Nat → Prop}
theorem Rep.mono (hb : Below w.heap.size w w') : ∀ {t : Tr} {e : Ev}, Rep w P t e → Rep w' P t e
  | .nm _, _, h => h
  | .bin _ _ _ _, _, ⟨b, x, y, h1, hp, h2, h3, h4⟩ => ⟨b, x, y, h1, hp, h2.mono hb, Rep.mono hb h3, Rep.mono hb h4⟩
theorem Rep.kx {X : TypeId → Prop} {base : Nat} (k : KX X base w w') (hX : ¬ X 29) : ∀ {t : Tr} {e : Ev}, Rep w P t e → Rep w' P t e
  | .nm _, _, h => h
  | .bin _ _ _ _, _, ⟨b, x, y, h1, hp, h2, h3, h4⟩ => ⟨b, x, y, h1, hp, k.typ _ _ _ h2 hX, Rep.kx k hX h3, Rep.kx k hX h4⟩
theorem Rep.imp (hPQ : ∀ b, P b → b < w.heap.size → Q b) : ∀ {t : Tr} {e : Ev}, Rep w P t e → Rep w Q t e
  | .nm _, _, h => h
  | .bin _ _ _ _, _, ⟨b, x, y, h1, hp, h2, h3, h4⟩ => ⟨b, x, y, h1, hPQ b hp h2.lt, h2, Rep.imp hPQ h3, Rep.imp hPQ h4⟩
theorem Rep.setN {b0 j : Nat} {u : Value} (hn : ¬ P b0) : ∀ {t : Tr} {e : Ev}, Rep w P t e → Rep (w.setCell ⟨b0, j, none⟩ u) P t e
  | .nm _, _, h => h
  | .bin _ _ _ _, _, ⟨b, x, y, h1, hp, h2, h3, h4⟩ => ⟨b, x, y, h1, hp, h2.other (fun e => hn (by rw [e]; exact hp)) _ _, Rep.setN hn h3, Rep.setN hn h4⟩
end
theorem xpEx : ¬ XPr 29 := by unfold XPr; decide
theorem xpTk : ¬ XPr 149 := by unfold XPr; decide
/-- A part of the parser returns an expression. -/
def RetE (w0 w : World) (q g : Nat) (L : List Tk4) (k : Nat) (t : Tr) (e : Ending) (w' : World) : Prop := ∃ ev, e = .returned (evV ev) ∧ Rep w' (fun b => w.heap.size ≤ b) t ev ∧ PZ w0 w' q g L k ∧ KX XPr w0.heap.size w w'

theorem node_any (op : Int) (ad : Option Addr) (n c : Nat) (w : World) : Calls Tryz.prog 122 #[.int .i64 op, .slice ad n c] w fun e w' => e = .returned (evV ⟨op, 0, ⟨#[]⟩, ad, n, c⟩) ∧ Below w.heap.size w w' := by
  have gA := Blk.new w #[.int .i64 0, .int .u64 0, .string ⟨#[]⟩, .slice none 0 0] 29
  have a0 := gA.cell (j := 0) (v := .int .i64 0) rfl; have a1 := gA.cell (j := 1) (v := .int .u64 0) rfl; have a2 := gA.cell (j := 2) (v := .string ⟨#[]⟩) rfl; have a3 := gA.cell (j := 3) (v := .slice none 0 0) rfl
  have hB : Below w.heap.size w (w.alloc (.cells #[.int .i64 op, .int .u64 0, .string ⟨#[]⟩, .slice ad n c] 29)) := (Below.refl _ _).alloc (Nat.le_refl _) _
  have gF := Blk.new w #[.int .i64 op, .int .u64 0, .string ⟨#[]⟩, .slice ad n c] 29
  have z0 := gF.cell (j := 0) (v := .int .i64 op) rfl; have z1 := gF.cell (j := 1) (v := .int .u64 0) rfl; have z2 := gF.cell (j := 2) (v := .string ⟨#[]⟩) rfl; have z3 := gF.cell (j := 3) (v := .slice ad n c) rfl
  clear gA gF a0 a1 a2 a3
  go_enter Tryz.func122, Tryz.ntmps122
  go_wp2
  exact bodyPost_ret (v := evV ⟨op, 0, ⟨#[]⟩, ad, n, c⟩) (by simp [results, Tryz.results122, go_sem, evV, z0, z1, z2, z3]) rfl ⟨rfl, hB⟩

set_option maxRecDepth 10000 in
set_option maxHeartbeats 4000000 in
theorem primary_any {w0 w : World} {q g k : Nat} {L : List Tk4} (h : PZ w0 w q g L k) (hk : k + 1 < L.length) (h0 : (L.getD k default).k = 1) (h1 : (L.getD (k + 1) default).k ≠ 0) (hn : ((L.getD (k + 1) default).t.toList == (⟨#[40]⟩ : ByteArray).toList) = false) :
    Calls Tryz.prog 212 #[.pointer (some ⟨q, 0, none⟩)] w (RetPZ w0 w q g L (k + 1) (evV ⟨2, 0, (L.getD k default).t, none, 0, 0⟩)) := by
  have cT := fun W h => take_any (w0 := w0) (w := W) (q := q) (g := g) (L := L) (k := k) h hk
  have cN := fun W h => accept_no (w0 := w0) (w := W) (q := q) (g := g) h ⟨#[40]⟩ h1 hn
  have hz := h.size
  have hlt := h.lts
  have hS := h
  obtain ⟨m, c, h⟩ := h
  obtain ⟨n0, n1, n2, n3⟩ := h.now
  have hm := h.pos
  obtain ⟨d, hd⟩ : ∃ d, L.getD k default = d := ⟨_, rfl⟩
  rw [hd] at n0 n1 n3 cT h0
  rw [hd]
  rw [h0] at n0
  replace hd := hide hd
  obtain ⟨A, hA⟩ : ∃ A, A = Obj.cells #[.int .i64 0, .int .u64 0, .string ⟨#[]⟩, .slice none 0 0] 29 := ⟨_, rfl⟩
  have b1 : Below w.heap.size w (w.alloc A) := (Below.refl _ _).alloc (Nat.le_refl _) _
  have m0 := cell_below b1 n0; have m1 := cell_below b1 n1; have m2 := cell_below b1 n2; have m3 := cell_below b1 n3
  have q1 := (h.mono b1).blk.cell (j := 0) (v := .slice (some ⟨g, k * 4, none⟩) m c) rfl
  rw [hA] at q1 m0 m1 m2 m3
  clear n0 n1 n2 n3 h1 hn b1 hA A
  go_enter Tryz.func212, Tryz.ntmps212
  go_wp2_with fail
  refine name_calls fun W hN => ?_
  have hbW : Below w.heap.size w W := by rw [hN]; exact ((Below.refl _ _).alloc (Nat.le_refl _) _).alloc (by simp) _
  have gA : Blk W w.heap.size #[.int .i64 0, .int .u64 0, .string ⟨#[]⟩, .slice none 0 0] 29 := by rw [hN]; exact (Blk.newAt rfl).alloc _
  have gB : Blk W (w.heap.size + 1) #[.int .i64 1, .string d.t, .int .u64 0, .int .i64 d.p] 149 := by rw [hN]; exact Blk.newAt (by simp)
  clear hN m0 m1 m2 m3 q1
  refine (cT W (hS.mono hbW)).mono ?_
  rintro e w1 ⟨rfl, p1, k1⟩
  replace gA := k1.typ _ _ _ gA xpEx
  replace gB := k1.typ _ _ _ gB xpTk
  have kx := (KX.of_below hbW hz).trans k1
  clear cT k1 hbW
  go_wp2_with fail
  refine (cN w1 p1).mono ?_
  rintro e w2 ⟨rfl, hb2⟩
  replace gA := gA.mono hb2
  replace gB := gB.mono hb2
  have p2 := p1.mono hb2
  have kx2 := kx.trans (KX.of_below hb2 p1.size)
  clear cN p1 kx hb2
  have y1 := gB.cell (j := 1) (v := .string d.t) rfl
  have a0 := gA.cell (j := 0) (v := .int .i64 0) rfl; have a1 := gA.cell (j := 1) (v := .int .u64 0) rfl; have a2 := gA.cell (j := 2) (v := .string ⟨#[]⟩) rfl; have a3 := gA.cell (j := 3) (v := .slice none 0 0) rfl
  have af := gA.free
  have gF := (((gA.set 0 (.int .i64 2)).set 1 (.int .u64 0)).set 2 (.string d.t)).set 3 (.slice none 0 0)
  have z0 := gF.cell (j := 0) (v := .int .i64 2) rfl; have z1 := gF.cell (j := 1) (v := .int .u64 0) rfl; have z2 := gF.cell (j := 2) (v := .string d.t) rfl; have z3 := gF.cell (j := 3) (v := .slice none 0 0) rfl
  have pF := (((p2.setN (b := w.heap.size) (j := 0) (u := .int .i64 2) hz (by omega) (by omega)).setN (b := w.heap.size) (j := 1) (u := .int .u64 0) hz (by omega) (by omega)).setN (b := w.heap.size) (j := 2) (u := .string d.t) hz (by omega) (by omega)).setN (b := w.heap.size) (j := 3) (u := .slice none 0 0) hz (by omega) (by omega)
  have kF := (((kx2.setN (b := w.heap.size) (j := 0) (u := .int .i64 2) (Nat.le_refl _) hz).setN (b := w.heap.size) (j := 1) (u := .int .u64 0) (Nat.le_refl _) hz).setN (b := w.heap.size) (j := 2) (u := .string d.t) (Nat.le_refl _) hz).setN (b := w.heap.size) (j := 3) (u := .slice none 0 0) (Nat.le_refl _) hz
  clear gA gB p2 kx2
  go_wp2
  exact bodyPost_ret (v := evV ⟨2, 0, d.t, none, 0, 0⟩) (by simp [results, Tryz.results212, go_sem, evV, z0, z1, z2, z3]) rfl ⟨rfl, pF, kF⟩

set_option maxRecDepth 10000 in
set_option maxHeartbeats 4000000 in
theorem unary_any {w0 w : World} {q g k : Nat} {L : List Tk4} (h : PZ w0 w q g L k) (hk : k + 1 < L.length) (h0 : (L.getD k default).k = 1) (hm : ((L.getD k default).t.toList == (⟨#[45]⟩ : ByteArray).toList) = false) (ht : ((L.getD k default).t.toList == (⟨#[110, 111, 116]⟩ : ByteArray).toList) = false)
    (h1 : (L.getD (k + 1) default).k ≠ 0) (hn : ((L.getD (k + 1) default).t.toList == (⟨#[40]⟩ : ByteArray).toList) = false) (hb : ((L.getD (k + 1) default).t.toList == (⟨#[91]⟩ : ByteArray).toList) = false) :
    Calls Tryz.prog 180 #[.pointer (some ⟨q, 0, none⟩)] w (RetPZ w0 w q g L (k + 1) (evV ⟨2, 0, (L.getD k default).t, none, 0, 0⟩)) := by
  have cM := fun W h => accept_no (w0 := w0) (w := W) (q := q) (g := g) h ⟨#[45]⟩ (by rw [h0]; decide) hm
  have cT := fun W h => accept_no (w0 := w0) (w := W) (q := q) (g := g) h ⟨#[110, 111, 116]⟩ (by rw [h0]; decide) ht
  have cP := fun W h => primary_any (w0 := w0) (w := W) (q := q) (g := g) h hk h0 h1 hn
  have cB := fun W h => accept_no (w0 := w0) (w := W) (q := q) (g := g) h ⟨#[91]⟩ h1 hb
  have hz := h.size
  have hlt := h.lts
  obtain ⟨t, hd⟩ : ∃ t, (L.getD k default).t = t := ⟨_, rfl⟩
  rw [hd] at cP
  rw [hd]
  replace hd := hide hd
  clear h0 hm ht h1 hn hb
  go_enter Tryz.func180, Tryz.ntmps180
  go_wp2_with fail
  refine name_calls fun W hN => ?_
  have hbW : Below w.heap.size w W := by rw [hN]; exact (Below.refl _ _).alloc (Nat.le_refl _) _
  have gA : Blk W w.heap.size #[.int .i64 0, .int .u64 0, .string ⟨#[]⟩, .slice none 0 0] 29 := by rw [hN]; exact Blk.newAt rfl
  clear hN
  refine (cM W (h.mono hbW)).mono ?_
  rintro e w1 ⟨rfl, hb1⟩
  replace gA := gA.mono hb1
  replace hbW := below2 hbW hb1
  clear hb1 cM
  go_wp2_with fail
  refine (cT w1 (h.mono hbW)).mono ?_
  rintro e w2 ⟨rfl, hb2⟩
  replace gA := gA.mono hb2
  replace hbW := below2 hbW hb2
  clear hb2 cT
  go_wp2_with fail
  refine (cP w2 (h.mono hbW)).mono ?_
  rintro e w3 ⟨rfl, p3, k3⟩
  replace gA := k3.typ _ _ _ gA xpEx
  have kx := (KX.of_below hbW hz).trans k3
  clear cP k3 hbW
  unfold evV
  have hw3 : w.heap.size < w3.heap.size := gA.lt
  have hbB : Below w3.heap.size w3 (w3.alloc (.cells #[.int .i64 2, .int .u64 0, .string t, .slice none 0 0] 29)) := (Below.refl _ _).alloc (Nat.le_refl _) _
  have gB := Blk.new w3 #[.int .i64 2, .int .u64 0, .string t, .slice none 0 0] 29
  go_wp2_with fail
  go_loopw [] (fun wr => wr = w3.alloc (.cells #[.int .i64 2, .int .u64 0, .string t, .slice none 0 0] 29)) (fun _ => 0)
  case atStart => rfl
  case round =>
    subst hrel
    go_wp2_with fail
    refine (cB _ (p3.mono hbB)).mono ?_
    rintro e w4 ⟨rfl, hb4⟩
    have hb34 := below2 hbB hb4
    replace gA := gA.mono hb34
    replace gB := gB.mono hb4
    have p4 := p3.mono hb34
    have kx4 := kx.trans (KX.of_below hb34 p3.size)
    clear cB p3 kx hb4 hbB hb34
    have y0 := gB.cell (j := 0) (v := .int .i64 2) rfl; have y1 := gB.cell (j := 1) (v := .int .u64 0) rfl; have y2 := gB.cell (j := 2) (v := .string t) rfl; have y3 := gB.cell (j := 3) (v := .slice none 0 0) rfl
    have a0 := gA.cell (j := 0) (v := .int .i64 0) rfl; have a1 := gA.cell (j := 1) (v := .int .u64 0) rfl; have a2 := gA.cell (j := 2) (v := .string ⟨#[]⟩) rfl; have a3 := gA.cell (j := 3) (v := .slice none 0 0) rfl
    have af := gA.free
    have gF := (((gA.set 0 (.int .i64 2)).set 1 (.int .u64 0)).set 2 (.string t)).set 3 (.slice none 0 0)
    have z0 := gF.cell (j := 0) (v := .int .i64 2) rfl; have z1 := gF.cell (j := 1) (v := .int .u64 0) rfl; have z2 := gF.cell (j := 2) (v := .string t) rfl; have z3 := gF.cell (j := 3) (v := .slice none 0 0) rfl
    have pF := (((p4.setN (b := w.heap.size) (j := 0) (u := .int .i64 2) hz (by omega) (by omega)).setN (b := w.heap.size) (j := 1) (u := .int .u64 0) hz (by omega) (by omega)).setN (b := w.heap.size) (j := 2) (u := .string t) hz (by omega) (by omega)).setN (b := w.heap.size) (j := 3) (u := .slice none 0 0) hz (by omega) (by omega)
    have kF := (((kx4.setN (b := w.heap.size) (j := 0) (u := .int .i64 2) (Nat.le_refl _) hz).setN (b := w.heap.size) (j := 1) (u := .int .u64 0) (Nat.le_refl _) hz).setN (b := w.heap.size) (j := 2) (u := .string t) (Nat.le_refl _) hz).setN (b := w.heap.size) (j := 3) (u := .slice none 0 0) (Nat.le_refl _) hz
    clear gA gB p4 kx4
    go_wp2
    exact bodyPost_ret (v := evV ⟨2, 0, t, none, 0, 0⟩) (by simp [results, Tryz.results180, go_sem, evV, z0, z1, z2, z3]) rfl ⟨rfl, pF, kF⟩

theorem ix0 (s0 s1 s2 s3 : ByteArray) (o0 o1 o2 o3 : Int) (W : World) : Sem.run Tryz.prog (Instr.index 288 (.agg #[.string s0, .int .i64 o0, .string s1, .int .i64 o1, .string s2, .int .i64 o2, .string s3, .int .i64 o3]) (.int .i64 0)) W = .ok (.agg #[.string s0, .int .i64 o0]) W := by kernel_rfl
theorem ix1 (s0 s1 s2 s3 : ByteArray) (o0 o1 o2 o3 : Int) (W : World) : Sem.run Tryz.prog (Instr.index 288 (.agg #[.string s0, .int .i64 o0, .string s1, .int .i64 o1, .string s2, .int .i64 o2, .string s3, .int .i64 o3]) (.int .i64 1)) W = .ok (.agg #[.string s1, .int .i64 o1]) W := by kernel_rfl
theorem ix2 (s0 s1 s2 s3 : ByteArray) (o0 o1 o2 o3 : Int) (W : World) : Sem.run Tryz.prog (Instr.index 288 (.agg #[.string s0, .int .i64 o0, .string s1, .int .i64 o1, .string s2, .int .i64 o2, .string s3, .int .i64 o3]) (.int .i64 2)) W = .ok (.agg #[.string s2, .int .i64 o2]) W := by kernel_rfl
theorem ix3 (s0 s1 s2 s3 : ByteArray) (o0 o1 o2 o3 : Int) (W : World) : Sem.run Tryz.prog (Instr.index 288 (.agg #[.string s0, .int .i64 o0, .string s1, .int .i64 o1, .string s2, .int .i64 o2, .string s3, .int .i64 o3]) (.int .i64 3)) W = .ok (.agg #[.string s3, .int .i64 o3]) W := by kernel_rfl
/-- A level of the operators, as its variable holds it. -/
structure Lvl (w : World) (lv : Nat) (s0 s1 s2 s3 : ByteArray) (o0 o1 o2 o3 : Int) : Prop where
  c0 : w.cell? ⟨2, lv * 8, none⟩ = some (.string s0)
  c1 : w.cell? ⟨2, lv * 8 + 1, none⟩ = some (.int .i64 o0)
  c2 : w.cell? ⟨2, lv * 8 + 2, none⟩ = some (.string s1)
  c3 : w.cell? ⟨2, lv * 8 + 3, none⟩ = some (.int .i64 o1)
  c4 : w.cell? ⟨2, lv * 8 + 4, none⟩ = some (.string s2)
  c5 : w.cell? ⟨2, lv * 8 + 5, none⟩ = some (.int .i64 o2)
  c6 : w.cell? ⟨2, lv * 8 + 6, none⟩ = some (.string s3)
  c7 : w.cell? ⟨2, lv * 8 + 7, none⟩ = some (.int .i64 o3)
set_option maxRecDepth 10000 in
set_option maxHeartbeats 4000000 in
theorem operator_no {w0 w : World} {q g k : Nat} {L : List Tk4} (h : PZ w0 w q g L k) (h0 : (L.getD k default).k ≠ 0) (lv : Nat) (hlv : lv < 5) {s0 s1 s2 s3 : ByteArray} {o0 o1 o2 o3 : Int} (hL : Lvl w lv s0 s1 s2 s3 o0 o1 o2 o3)
    (n0 : s0.toList.isEmpty = true ∨ s0.toList.isEmpty = false ∧ ((L.getD k default).t.toList == s0.toList) = false) (n1 : s1.toList.isEmpty = true ∨ s1.toList.isEmpty = false ∧ ((L.getD k default).t.toList == s1.toList) = false)
    (n2 : s2.toList.isEmpty = true ∨ s2.toList.isEmpty = false ∧ ((L.getD k default).t.toList == s2.toList) = false) (n3 : s3.toList.isEmpty = true ∨ s3.toList.isEmpty = false ∧ ((L.getD k default).t.toList == s3.toList) = false) :
    Calls Tryz.prog 181 #[.pointer (some ⟨q, 0, none⟩), .int .i64 lv] w fun e w' => e = .returned (.tuple #[.int .i64 0, .bool false]) ∧ Below w.heap.size w w' := by
  have cA := fun s (hs : ((L.getD k default).t.toList == s.toList) = false) W h => accept_no (w0 := w0) (w := W) (q := q) (g := g) h s h0 hs
  obtain ⟨c0, c1, c2, c3, c4, c5, c6, c7⟩ := hL
  have i0 := fun W => ix0 s0 s1 s2 s3 o0 o1 o2 o3 W
  have i1 := fun W => ix1 s0 s1 s2 s3 o0 o1 o2 o3 W
  have i2 := fun W => ix2 s0 s1 s2 s3 o0 o1 o2 o3 W
  have i3 := fun W => ix3 s0 s1 s2 s3 o0 o1 o2 o3 W
  have hlvI : (lv : Int) < 5 := by omega
  replace n0 := hide n0
  replace n1 := hide n1
  replace n2 := hide n2
  replace n3 := hide n3
  replace cA := hide cA
  go_enter Tryz.func181, Tryz.ntmps181
  go_wp2_with fail
  clear c0 c1 c2 c3 c4 c5 c6 c7
  go_loopw [11] (fun t11 wr => ∃ i : Nat, i ≤ 4 ∧ t11 = .int .i64 i ∧ Below w.heap.size w wr) (fun t11 _ => 4 - (intOf t11).toNat)
  case atStart => exact ⟨0, by omega, rfl, Below.refl _ _⟩
  case round =>
    obtain ⟨i, hi, rfl, hB⟩ := hrel
    by_cases hlt : i < 4
    · rcases (show i = 0 ∨ i = 1 ∨ i = 2 ∨ i = 3 by omega) with rfl | rfl | rfl | rfl
      · have hB1 : Below w.heap.size w (wr.alloc (.cells #[.string s0, .int .i64 o0] 287)) := hB.alloc hB.size _
        have y0 := (Blk.new wr #[.string s0, .int .i64 o0] 287).cell (j := 0) (v := .string s0) rfl
        rcases n0.out with he | ⟨he, hne⟩
        · go_wp2
          go_roundw
          case rel => exact ⟨1, by omega, rfl, hB1⟩
          case measure => simp [intOf]
        · have cc := cA.out s0 hne _ (h.mono hB1)
          clear hne
          go_wp2_with fail
          refine cc.mono ?_
          rintro e w2 ⟨rfl, hb2⟩
          have hB2 := below2 hB1 hb2
          clear y0 hb2 hB1 cc
          go_wp2
          go_roundw
          case rel => exact ⟨1, by omega, rfl, hB2⟩
          case measure => simp [intOf]
      · have hB1 : Below w.heap.size w (wr.alloc (.cells #[.string s1, .int .i64 o1] 287)) := hB.alloc hB.size _
        have y0 := (Blk.new wr #[.string s1, .int .i64 o1] 287).cell (j := 0) (v := .string s1) rfl
        rcases n1.out with he | ⟨he, hne⟩
        · go_wp2
          go_roundw
          case rel => exact ⟨2, by omega, rfl, hB1⟩
          case measure => simp [intOf]
        · have cc := cA.out s1 hne _ (h.mono hB1)
          clear hne
          go_wp2_with fail
          refine cc.mono ?_
          rintro e w2 ⟨rfl, hb2⟩
          have hB2 := below2 hB1 hb2
          clear y0 hb2 hB1 cc
          go_wp2
          go_roundw
          case rel => exact ⟨2, by omega, rfl, hB2⟩
          case measure => simp [intOf]
      · have hB1 : Below w.heap.size w (wr.alloc (.cells #[.string s2, .int .i64 o2] 287)) := hB.alloc hB.size _
        have y0 := (Blk.new wr #[.string s2, .int .i64 o2] 287).cell (j := 0) (v := .string s2) rfl
        rcases n2.out with he | ⟨he, hne⟩
        · go_wp2
          go_roundw
          case rel => exact ⟨3, by omega, rfl, hB1⟩
          case measure => simp [intOf]
        · have cc := cA.out s2 hne _ (h.mono hB1)
          clear hne
          go_wp2_with fail
          refine cc.mono ?_
          rintro e w2 ⟨rfl, hb2⟩
          have hB2 := below2 hB1 hb2
          clear y0 hb2 hB1 cc
          go_wp2
          go_roundw
          case rel => exact ⟨3, by omega, rfl, hB2⟩
          case measure => simp [intOf]
      · have hB1 : Below w.heap.size w (wr.alloc (.cells #[.string s3, .int .i64 o3] 287)) := hB.alloc hB.size _
        have y0 := (Blk.new wr #[.string s3, .int .i64 o3] 287).cell (j := 0) (v := .string s3) rfl
        rcases n3.out with he | ⟨he, hne⟩
        · go_wp2
          go_roundw
          case rel => exact ⟨4, by omega, rfl, hB1⟩
          case measure => simp [intOf]
        · have cc := cA.out s3 hne _ (h.mono hB1)
          clear hne
          go_wp2_with fail
          refine cc.mono ?_
          rintro e w2 ⟨rfl, hb2⟩
          have hB2 := below2 hB1 hb2
          clear y0 hb2 hB1 cc
          go_wp2
          go_roundw
          case rel => exact ⟨4, by omega, rfl, hB2⟩
          case measure => simp [intOf]
    · obtain rfl : i = 4 := by omega
      go_wp2
      exact bodyPost_ret (v := .tuple #[.int .i64 0, .bool false]) (by simp [results, Tryz.results181, go_sem]) rfl ⟨rfl, hB⟩

set_option maxRecDepth 10000 in
set_option maxHeartbeats 4000000 in
theorem operator_yes {w0 w : World} {q g k : Nat} {L : List Tk4} (h : PZ w0 w q g L k) (hk : k + 1 < L.length) (h0 : (L.getD k default).k ≠ 0) (lv : Nat) (hlv : lv < 5) {s0 s1 s2 s3 : ByteArray} {o0 o1 o2 o3 : Int} (hL : Lvl w lv s0 s1 s2 s3 o0 o1 o2 o3)
    (n0 : s0.toList.isEmpty = false) (e0 : ((L.getD k default).t.toList == s0.toList) = true) :
    Calls Tryz.prog 181 #[.pointer (some ⟨q, 0, none⟩), .int .i64 lv] w (RetPZ w0 w q g L (k + 1) (.tuple #[.int .i64 o0, .bool true])) := by
  have cA := fun W h => accept_yes (w0 := w0) (w := W) (q := q) (g := g) h s0 hk h0 e0
  obtain ⟨c0, c1, c2, c3, c4, c5, c6, c7⟩ := hL
  have i0 := fun W => ix0 s0 s1 s2 s3 o0 o1 o2 o3 W
  have hlvI : (lv : Int) < 5 := by omega
  have hz := h.size
  have hb1 : Below w.heap.size w (w.alloc (.cells #[.string s0, .int .i64 o0] 287)) := (Below.refl _ _).alloc (Nat.le_refl _) _
  have gB := Blk.new w #[.string s0, .int .i64 o0] 287
  have y0 := gB.cell (j := 0) (v := .string s0) rfl
  clear e0 h0
  go_enter Tryz.func181, Tryz.ntmps181
  go_wp2_with fail
  clear c0 c1 c2 c3 c4 c5 c6 c7
  go_loopw [11] (fun t11 wr => t11 = .int .i64 0 ∧ wr = w) (fun _ _ => 0)
  case atStart => exact ⟨rfl, rfl⟩
  case round =>
    obtain ⟨rfl, rfl⟩ := hrel
    go_wp2_with fail
    refine (cA _ (h.mono hb1)).mono ?_
    rintro e w2 ⟨rfl, p2, k2⟩
    have kx := (KX.of_below hb1 hz).trans k2
    have gB2 := k2.typ _ _ _ gB (by unfold XPr; decide)
    have y1 := gB2.cell (j := 1) (v := .int .i64 o0) rfl
    clear cA gB k2 hb1 y0 gB2
    go_wp2
    exact bodyPost_ret (v := .tuple #[.int .i64 o0, .bool true]) (by simp [results, Tryz.results181, go_sem]) rfl ⟨rfl, p2, kx⟩

/-- The levels of the operators. -/
structure POps (w : World) : Prop where
  l0 : Lvl w 0 ⟨#[111, 114]⟩ ⟨#[]⟩ ⟨#[]⟩ ⟨#[]⟩ 19 0 0 0
  l1 : Lvl w 1 ⟨#[97, 110, 100]⟩ ⟨#[]⟩ ⟨#[]⟩ ⟨#[]⟩ 18 0 0 0
  l2 : Lvl w 2 ⟨#[61, 61]⟩ ⟨#[33, 61]⟩ ⟨#[60]⟩ ⟨#[60, 61]⟩ 14 15 16 17
  l3 : Lvl w 3 ⟨#[43]⟩ ⟨#[45]⟩ ⟨#[]⟩ ⟨#[]⟩ 12 13 0 0
  l4 : Lvl w 4 ⟨#[42]⟩ ⟨#[]⟩ ⟨#[]⟩ ⟨#[]⟩ 11 0 0 0
theorem Lvl.mono {w w' : World} {lv : Nat} {s0 s1 s2 s3 : ByteArray} {o0 o1 o2 o3 : Int} (h : Lvl w lv s0 s1 s2 s3 o0 o1 o2 o3) (hw : ∀ a v, a.block = 2 → w.cell? a = some v → w'.cell? a = some v) : Lvl w' lv s0 s1 s2 s3 o0 o1 o2 o3 :=
  ⟨hw _ _ rfl h.c0, hw _ _ rfl h.c1, hw _ _ rfl h.c2, hw _ _ rfl h.c3, hw _ _ rfl h.c4, hw _ _ rfl h.c5, hw _ _ rfl h.c6, hw _ _ rfl h.c7⟩

theorem binary_leaf {w0 w : World} {q g k : Nat} {L : List Tk4} (h : PZ w0 w q g L k) (t : ByteArray) (hU : ∀ W, PZ w0 W q g L k → Calls Tryz.prog 180 #[.pointer (some ⟨q, 0, none⟩)] W (RetPZ w0 W q g L (k + 1) (evV ⟨2, 0, t, none, 0, 0⟩))) :
    Calls Tryz.prog 121 #[.pointer (some ⟨q, 0, none⟩), .int .i64 5] w (RetE w0 w q g L (k + 1) (.nm t)) := by
  have hz := h.size
  have hlt := h.lts
  go_enter Tryz.func121, Tryz.ntmps121
  go_wp2_with fail
  refine name_calls fun W hN => ?_
  have hbW : Below w.heap.size w W := by rw [hN]; exact (Below.refl _ _).alloc (Nat.le_refl _) _
  have gA : Blk W w.heap.size #[.int .i64 0, .int .u64 0, .string ⟨#[]⟩, .slice none 0 0] 29 := by rw [hN]; exact Blk.newAt rfl
  clear hN
  refine (hU W (h.mono hbW)).mono ?_
  rintro e w1 ⟨rfl, p1, k1⟩
  replace gA := k1.typ _ _ _ gA xpEx
  have kx := (KX.of_below hbW hz).trans k1
  unfold evV
  have a0 := gA.cell (j := 0) (v := .int .i64 0) rfl; have a1 := gA.cell (j := 1) (v := .int .u64 0) rfl; have a2 := gA.cell (j := 2) (v := .string ⟨#[]⟩) rfl; have a3 := gA.cell (j := 3) (v := .slice none 0 0) rfl
  have af := gA.free
  have gF := (((gA.set 0 (.int .i64 2)).set 1 (.int .u64 0)).set 2 (.string t)).set 3 (.slice none 0 0)
  have z0 := gF.cell (j := 0) (v := .int .i64 2) rfl; have z1 := gF.cell (j := 1) (v := .int .u64 0) rfl; have z2 := gF.cell (j := 2) (v := .string t) rfl; have z3 := gF.cell (j := 3) (v := .slice none 0 0) rfl
  have pF := (((p1.setN (b := w.heap.size) (j := 0) (u := .int .i64 2) hz (by omega) (by omega)).setN (b := w.heap.size) (j := 1) (u := .int .u64 0) hz (by omega) (by omega)).setN (b := w.heap.size) (j := 2) (u := .string t) hz (by omega) (by omega)).setN (b := w.heap.size) (j := 3) (u := .slice none 0 0) hz (by omega) (by omega)
  have kF := (((kx.setN (b := w.heap.size) (j := 0) (u := .int .i64 2) (Nat.le_refl _) hz).setN (b := w.heap.size) (j := 1) (u := .int .u64 0) (Nat.le_refl _) hz).setN (b := w.heap.size) (j := 2) (u := .string t) (Nat.le_refl _) hz).setN (b := w.heap.size) (j := 3) (u := .slice none 0 0) (Nat.le_refl _) hz
  clear gA p1 kx k1 hbW
  go_wp2
  exact bodyPost_ret (v := evV ⟨2, 0, t, none, 0, 0⟩) (by simp [results, Tryz.results121, go_sem, evV, z0, z1, z2, z3]) rfl ⟨_, rfl, rfl, pF, kF⟩

/-- The store of an expression into the result's block, and the end. -/
theorem exp_fin {w0 w W : World} {q g k : Nat} {L : List Tk4} {t : Tr} {ev : Ev} (hz : w0.heap.size ≤ w.heap.size) (hlt : q < w.heap.size ∧ g < w.heap.size) (gA : Blk W w.heap.size #[.int .i64 0, .int .u64 0, .string ⟨#[]⟩, .slice none 0 0] 29) (hR : Rep W (fun b => w.heap.size < b) t ev) (p : PZ w0 W q g L k) (kx : KX XPr w0.heap.size w W) :
    ∀ W', W' = (((W.setCell ⟨w.heap.size, 0, none⟩ (.int .i64 ev.op)).setCell ⟨w.heap.size, 1, none⟩ (.int .u64 ev.val)).setCell ⟨w.heap.size, 2, none⟩ (.string ev.nm)).setCell ⟨w.heap.size, 3, none⟩ (.slice ev.ad ev.n ev.c) →
      Blk W' w.heap.size #[.int .i64 ev.op, .int .u64 ev.val, .string ev.nm, .slice ev.ad ev.n ev.c] 29 ∧ RetE w0 w q g L k t (.returned (evV ev)) W' := by
  rintro W' rfl
  have hn : ¬ (fun b => w.heap.size < b) w.heap.size := Nat.lt_irrefl _
  refine ⟨(((gA.set 0 _).set 1 _).set 2 _).set 3 _, ev, rfl, ((((hR.setN hn).setN hn).setN hn).setN hn).imp (fun b hb _ => Nat.le_of_lt hb), ?_, ?_⟩
  · exact (((p.setN (b := w.heap.size) hz (by omega) (by omega)).setN (b := w.heap.size) hz (by omega) (by omega)).setN (b := w.heap.size) hz (by omega) (by omega)).setN (b := w.heap.size) hz (by omega) (by omega)
  · exact (((kx.setN (b := w.heap.size) (Nat.le_refl _) hz).setN (b := w.heap.size) (Nat.le_refl _) hz).setN (b := w.heap.size) (Nat.le_refl _) hz).setN (b := w.heap.size) (Nat.le_refl _) hz

set_option maxRecDepth 10000 in
set_option maxHeartbeats 4000000 in
theorem binary_pass {w0 w : World} {q g k k1 : Nat} {L : List Tk4} (h : PZ w0 w q g L k) (lv : Nat) (hlv : lv < 5) (t : Tr)
    (hS : ∀ W, PZ w0 W q g L k → Below w.heap.size w W → Calls Tryz.prog 121 #[.pointer (some ⟨q, 0, none⟩), .int .i64 ((lv : Int) + 1)] W (RetE w0 W q g L k1 t))
    (hO : ∀ W, PZ w0 W q g L k1 → KX XPr w0.heap.size w W → Calls Tryz.prog 181 #[.pointer (some ⟨q, 0, none⟩), .int .i64 lv] W fun e w' => e = .returned (.tuple #[.int .i64 0, .bool false]) ∧ Below W.heap.size W w') :
    Calls Tryz.prog 121 #[.pointer (some ⟨q, 0, none⟩), .int .i64 lv] w (RetE w0 w q g L k1 t) := by
  have hz := h.size
  have hlt := h.lts
  have hlvI : ¬ (lv : Int) = 5 := by omega
  have hlvB : ((lv : Int) == 5) = false := by rw [beq_eq_false_iff_ne]; exact hlvI
  go_enter Tryz.func121, Tryz.ntmps121
  go_wp2_with fail
  refine name_calls fun W hN => ?_
  have hbW : Below w.heap.size w W := by rw [hN]; exact (Below.refl _ _).alloc (Nat.le_refl _) _
  have gA : Blk W w.heap.size #[.int .i64 0, .int .u64 0, .string ⟨#[]⟩, .slice none 0 0] 29 := by rw [hN]; exact Blk.newAt rfl
  have hWz : w.heap.size < W.heap.size := gA.lt
  clear hN
  refine (hS W (h.mono hbW) hbW).mono ?_
  rintro e w1 ⟨ev, rfl, hR, p1, k1'⟩
  replace gA := k1'.typ _ _ _ gA xpEx
  have kx := (KX.of_below hbW hz).trans k1'
  have hR1 : Rep w1 (fun b => w.heap.size < b) t ev := hR.imp (fun b hb _ => by omega)
  have hbB : Below w1.heap.size w1 (w1.alloc (.cells #[.int .i64 ev.op, .int .u64 ev.val, .string ev.nm, .slice ev.ad ev.n ev.c] 29)) := (Below.refl _ _).alloc (Nat.le_refl _) _
  have gB := Blk.new w1 #[.int .i64 ev.op, .int .u64 ev.val, .string ev.nm, .slice ev.ad ev.n ev.c] 29
  have p2 := p1.mono hbB
  have kx2 := kx.trans (KX.of_below hbB p1.size)
  unfold evV
  clear hS hR k1' kx hbW
  go_wp2_with fail
  go_loopw [] (fun wr => wr = w1.alloc (.cells #[.int .i64 ev.op, .int .u64 ev.val, .string ev.nm, .slice ev.ad ev.n ev.c] 29)) (fun _ => 0)
  case atStart => rfl
  case round =>
    subst hrel
    go_wp2_with fail
    refine (hO _ p2 kx2).mono ?_
    rintro e w4 ⟨rfl, hb4⟩
    have hb34 := below2 hbB hb4
    replace gA := gA.mono hb34
    replace gB := gB.mono hb4
    have p4 := p2.mono hb4
    have kx4 := kx2.trans (KX.of_below hb4 p2.size)
    have hR4 := hR1.mono hb34
    clear hO p2 p1 kx2 hb4 hbB hb34 hR1
    have y0 := gB.cell (j := 0) (v := .int .i64 ev.op) rfl; have y1 := gB.cell (j := 1) (v := .int .u64 ev.val) rfl; have y2 := gB.cell (j := 2) (v := .string ev.nm) rfl; have y3 := gB.cell (j := 3) (v := .slice ev.ad ev.n ev.c) rfl
    have a0 := gA.cell (j := 0) (v := .int .i64 0) rfl; have a1 := gA.cell (j := 1) (v := .int .u64 0) rfl; have a2 := gA.cell (j := 2) (v := .string ⟨#[]⟩) rfl; have a3 := gA.cell (j := 3) (v := .slice none 0 0) rfl
    have af := gA.free
    obtain ⟨W7, hW7⟩ : ∃ W7, W7 = _ := ⟨_, rfl⟩
    obtain ⟨gF, hF⟩ := exp_fin hz hlt gA hR4 p4 kx4 W7 hW7
    clear gA gB p4 kx4 hR4
    go_wp2
    rw [← hW7]
    clear y0 y1 y2 y3 a0 a1 a2 a3 af hW7
    have z0 := gF.cell (j := 0) (v := .int .i64 ev.op) rfl; have z1 := gF.cell (j := 1) (v := .int .u64 ev.val) rfl; have z2 := gF.cell (j := 2) (v := .string ev.nm) rfl; have z3 := gF.cell (j := 3) (v := .slice ev.ad ev.n ev.c) rfl
    exact bodyPost_ret (v := evV ev) (by simp [results, Tryz.results121, go_sem, evV, z0, z1, z2, z3]) rfl hF
namespace Rel

section
variable {P : Program} {Q : Exit → Act → World → Prop}

theorem region_any {id : Nat} {a : Act} {w : World} {l : List Oper} (hm : P.follows .mixedOrders = true) (h : ∀ w1, Below w.heap.size w w1 → Any P l Q a w1) : (Code.region id l.toArray true).wp P Q a w :=
  any_of_region hm (h _ ⟨rfl, rfl, rfl, Nat.le_refl _, fun _ _ => rfl⟩)

end
end Rel
namespace Rel

section
variable {P : Program} {ops : Array Oper} {Q : Exit → Act → World → Prop} {md : Region.Mode} {S : World → Prop} {z : Nat}

/-- Whatever order is picked; S holds behind every operation but number z. -/
def wpAnyL (P : Program) (md : Region.Mode) (ops : Array Oper) (Q : Exit → Act → World → Prop) (S : World → Prop) (z : Nat) : Nat → Array Bool → Act → World → Prop
  | 0, listed, a, w => Region.ready md ops listed = [] ∧ Q .normal a w
  | fuel + 1, listed, a, w =>
    (Region.ready md ops listed = [] → Q .normal a w) ∧
    ∀ i ∈ Region.ready md ops listed, wpOp P ops Q i (fun a' w' => (i = z ∨ S w') ∧ wpAnyL P md ops Q S z fuel (listed.setIfInBounds i true) a' w') a w

theorem wpAny_of_L : ∀ (fuel : Nat) (listed : Array Bool) (a : Act) (w : World), wpAnyL P md ops Q S z fuel listed a w → wpAny P md ops Q fuel listed a w
  | 0, _, _, _, h => h
  | fuel + 1, _, _, _, h => ⟨h.1, fun i hi => wpOp_mono (fun a' w' h' => wpAny_of_L fuel _ a' w' h'.2) (h.2 i hi)⟩

/-- Number z waits for all others, at once or through others. -/
def waitsAll (ops : Array Oper) (z : Nat) : Bool := (List.range ops.size).all fun i => i == z || z == ops.size || anc ops ops.size z i
/-- What has been carried out is closed. -/
def doneB (ops : Array Oper) (listed : Array Bool) : Bool :=
  listed.size == ops.size && (List.range ops.size).all fun i => !listed.getD i false || match ops[i]? with
    | some o => o.after.all fun e => !Region.binds .any e || listed.getD e.on false
    | none => true
theorem doneB_spec {listed : Array Bool} (h : doneB ops listed = true) : Done ops listed := by
  unfold doneB at h
  rw [Bool.and_eq_true, beq_iff_eq, List.all_eq_true] at h
  refine ⟨h.1, fun i o ho hl j hj => ?_⟩
  have hi : i < ops.size := (Array.getElem?_eq_some_iff.1 ho).1
  have h2 := h.2 i (List.mem_range.2 hi)
  rw [hl, ho] at h2
  simp only [Bool.not_true, Bool.false_or] at h2
  obtain ⟨e, he, hb, rfl⟩ := needs_spec.1 hj
  have h3 := Array.all_eq_true'.1 h2 e he
  rw [hb] at h3
  simpa using h3

theorem wpAnyL_first {i : Nat} {oi : Oper} {v : Value} (hi : ops[i]? = some oi) (hsel : ∀ (j : Nat) (o : Oper) cs b, ops[j]? = some o → o.op ≠ .select cs b) (hz : waitsAll ops z = true)
    (hQ : ∀ c a w, Q (.panic c) (a.put oi.dst v) w → Q (.panic c) a w) :
    ∀ (fuel : Nat) (listed : Array Bool) (a : Act) (w : World), Done ops listed →
      (∀ j oj, ops[j]? = some oj → j ≠ i → listed.getD j true = false → (∀ e ∈ oj.after, Region.binds .any e = true → e.on ≠ i) → oi.apart ops oj = true) →
      i ∈ Region.ready .any ops listed → YieldsIf P ops S oi v a → S w →
      wpAnyL P .any ops Q S z fuel (listed.setIfInBounds i true) (a.put oi.dst v) w → wpAnyL P .any ops Q S z (fuel + 1) listed a w := by
  intro fuel
  induction fuel with
  | zero =>
    intro listed a w _ _ hr hy hS H
    refine ⟨fun h => (by rw [h] at hr; cases hr), fun j hj => ?_⟩
    by_cases hji : j = i
    · subst hji; exact hy.wpOp hi hS ⟨.inr hS, H⟩
    · have := ready_mono hj hji
      rw [H.1] at this
      cases this
  | succ fuel ih =>
    intro listed a w D hfree hr hy hS H
    refine ⟨fun h => (by rw [h] at hr; cases hr), fun j hj => ?_⟩
    by_cases hji : j = i
    · subst hji; exact hy.wpOp hi hS ⟨.inr hS, H⟩
    · have h1 := H.2 j (ready_mono hj hji)
      obtain ⟨hjun, oj, hoj, hall⟩ := mem_ready.1 hj
      have hnot : ∀ e ∈ oj.after, Region.binds .any e = true → e.on ≠ i := fun e he hb heq => by
        have h1 := hall e he hb
        have h0 := (mem_ready.1 hr).1
        rw [heq] at h1
        rcases Nat.lt_or_ge i listed.size with h' | h'
        · simp [h'] at h0 h1; rw [h0] at h1; cases h1
        · simp [Array.getElem?_eq_none h'] at h1
      have hjz : j ≠ z := fun e => by
        subst e
        unfold waitsAll at hz
        have hil : i < ops.size := (Array.getElem?_eq_some_iff.1 hi).1
        have hjl : j < ops.size := (Array.getElem?_eq_some_iff.1 hoj).1
        have h2 := List.all_eq_true.1 hz i (List.mem_range.2 hil)
        rw [Bool.or_eq_true, Bool.or_eq_true, beq_iff_eq, beq_iff_eq] at h2
        rcases h2 with (h2 | h2) | h2
        · exact hji h2.symm
        · omega
        · have h3 := anc_done D ops.size j i h2 fun o ho k hk => by
            rw [hoj] at ho
            cases ho
            obtain ⟨e, he, hb, rfl⟩ := needs_spec.1 hk
            exact hall e he hb
          obtain ⟨_, _, h4, _⟩ := (mem_ready' D.size).1 hr
          rw [h3] at h4
          cases h4
      have h2 := wpOp_putIf hoj (hfree j oj hoj hji hjun hnot) (fun cs b => hsel i oi cs b hi) (fun cs b => hsel j oj cs b hoj) hQ hy h1
      have hfree' : ∀ k ok, ops[k]? = some ok → k ≠ i → (listed.setIfInBounds j true).getD k true = false →
          (∀ e ∈ ok.after, Region.binds .any e = true → e.on ≠ i) → oi.apart ops ok = true := fun k ok hk hki hun hno => by
        refine hfree k ok hk hki ?_ hno
        by_cases hjk : j = k
        · subst hjk; exact hjun
        · rw [getD_set_ne true hjk] at hun; exact hun
      refine wpOp_mono (fun a' w' h3 => ?_) h2
      have hS' : S w' := h3.2.1.resolve_left hjz
      refine ⟨.inr hS', ih (listed.setIfInBounds j true) a' w' (D.set hj) hfree' (ready_mono hr (Ne.symm hji)) h3.1 hS' ?_⟩
      rw [Array.setIfInBounds_comm _ _ hji]
      exact h3.2.2

/-- The operation with a number. -/
def nth : List Oper → Nat → Option Oper
  | [], _ => none
  | o :: _, 0 => some o
  | _ :: l, n + 1 => nth l n
theorem nth_eq : ∀ (l : List Oper) (n : Nat), nth l n = l.toArray[n]?
  | [], _ => by simp [nth]
  | o :: l, 0 => by simp [nth]
  | o :: l, n + 1 => by rw [nth, nth_eq l n]; simp

/-- An operation is taken first. -/
theorem heldTake (i : Nat) {l : List Oper} {oi : Oper} {v : Value} {fuel : Nat} {listed : Array Bool} {a : Act} {w : World} (hi : nth l i = some oi)
    (hs : (Region.noSelect l.toArray && waitsAll l.toArray z && doneB l.toArray listed) = true) (hf : Region.free .any l.toArray listed i = true) (hr : (Region.ready .any l.toArray listed).contains i = true)
    (hQ : ∀ c a w, Q (.panic c) (a.put oi.dst v) w → Q (.panic c) a w) (hS : S w) (hw : Region.wanted oi (yielded l.toArray a.tmps) = true) (hy : ∀ w, S w → (execOp a.eval oi).run P w = .ok (.value v) w)
    (h : wpAnyL P .any l.toArray Q S z fuel (listed.setIfInBounds i true) (a.put oi.dst v) w) : wpAnyL P .any l.toArray Q S z (fuel + 1) listed a w := by
  have hi' : l.toArray[i]? = some oi := by rw [← nth_eq]; exact hi
  rw [Bool.and_eq_true, Bool.and_eq_true] at hs
  exact wpAnyL_first hi' (Region.noSelect_spec hs.1.1) hs.1.2 hQ fuel listed a w (doneB_spec hs.2) (Region.free_spec hi' hf) (by simpa using hr) (.inl ⟨hw, hy⟩) hS h

/-- The same, the closed facts found by themselves. -/
theorem tk (i : Nat) {l : List Oper} {oi : Oper} {v : Value} {fuel : Nat} {listed : Array Bool} {a : Act} {w : World} (hy : ∀ w, S w → (execOp a.eval oi).run P w = .ok (.value v) w)
    (h : wpAnyL P .any l.toArray Q S z fuel (listed.setIfInBounds i true) (a.put oi.dst v) w) (hi : nth l i = some oi := by rfl)
    (hs : (Region.noSelect l.toArray && waitsAll l.toArray z && doneB l.toArray listed) = true := by kernel_rfl) (hf : Region.free .any l.toArray listed i = true := by kernel_rfl) (hr : (Region.ready .any l.toArray listed).contains i = true := by kernel_rfl)
    (hQ : ∀ c a w, Q (.panic c) (a.put oi.dst v) w → Q (.panic c) a w := by exact fun _ _ _ h => h) (hS : S w := by assumption) (hw : Region.wanted oi (yielded l.toArray a.tmps) = true := by rfl) : wpAnyL P .any l.toArray Q S z (fuel + 1) listed a w :=
  heldTake i hi hs hf hr hQ hS hw hy h
/-- The only one that may come up. -/
theorem heldNext (i : Nat) {l : List Oper} {o : Oper} {fuel : Nat} {listed : Array Bool} {a : Act} {w : World} (hi : nth l i = some o) (hr : Region.ready md l.toArray listed = [i])
    (h : ∀ K : Act → World → Prop, Shut (∀ a' w', S w' → (S w' → wpAnyL P md l.toArray Q S z fuel (listed.setIfInBounds i true) a' w') → K a' w') → if Region.wanted o (yielded l.toArray a.tmps) = true then Oper.wp P o a w K Q else K (a.put o.dst undef) w) :
    wpAnyL P md l.toArray Q S z (fuel + 1) listed a w :=
  ⟨fun h0 => absurd (hr ▸ h0) (by simp), fun j hj => by
    rw [hr, List.mem_singleton] at hj
    subst hj
    exact wpOp_step (by rw [← nth_eq]; exact hi) fun K hK => h K fun a' w' hS hW => hK a' w' ⟨.inr hS, hW hS⟩⟩

/-- The last one. -/
theorem heldLast (i : Nat) {l : List Oper} {o : Oper} {fuel : Nat} {listed : Array Bool} {a : Act} {w : World} (hi : nth l i = some o) (hr : Region.ready md l.toArray listed = [i]) (hz : i = z)
    (he : Region.ready md l.toArray (listed.setIfInBounds i true) = [])
    (h : ∀ K : Act → World → Prop, Shut (∀ a' w', Q .normal a' w' → K a' w') → if Region.wanted o (yielded l.toArray a.tmps) = true then Oper.wp P o a w K Q else K (a.put o.dst undef) w) :
    wpAnyL P md l.toArray Q S z (fuel + 1) listed a w :=
  ⟨fun h0 => absurd (hr ▸ h0) (by simp), fun j hj => by
    rw [hr, List.mem_singleton] at hj
    subst hj
    refine wpOp_step (by rw [← nth_eq]; exact hi) fun K hK => h K fun a' w' hW => hK a' w' ⟨.inl hz, ?_⟩
    cases fuel with
    | zero => exact ⟨he, hW⟩
    | succ f => exact ⟨fun _ => hW, by rw [he]; simp⟩⟩

theorem any_held {l : List Oper} (S : World → Prop) (z : Nat) {a : Act} {w : World} (hS : S w) (h : S w → wpAnyL P .any l.toArray Q S z l.toArray.size (Array.replicate l.toArray.size false) a w) : Any P l Q a w :=
  wpAny_of_L _ _ _ _ (h hS)
end
end Rel
end Go.Proofs.YtalmgeefkcebdaaGreatDoor

