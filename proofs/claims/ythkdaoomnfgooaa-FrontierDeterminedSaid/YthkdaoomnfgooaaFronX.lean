/- Two frontiers beside each other: what stays when an entry of one is changed. -/
import Derived.Test.YthkdaoomnfgooaaFronW
import Derived.Test.YthkdaoomnfgooaaFronB
import Derived.Test.YthkdaoomnfgooaaFronQ
namespace Go.Proofs.Ythkdaoomnfgooaa
open Go.RowKit

def w64 (x : Int) : Int := IntKind.u64.wrap x
def incL (i : Nat) (F : List Int) : List Int := (F.take i).map (fun x => w64 (x + 1)) ++ F.drop i
def decL (i : Nat) (F : List Int) : List Int := F.take i ++ (F.drop i).map (fun x => w64 (x + 1))
theorem w64_bd (x : Int) : 0 ≤ w64 x ∧ w64 x < 18446744073709551616 := by
  unfold w64; rw [IntKind.wrap_u64]; omega
theorem w64_back {x : Int} (h : 0 ≤ x ∧ x < 18446744073709551616) : w64 (w64 (x + 1) - 1) = x := by
  unfold w64; rw [IntKind.wrap_u64, IntKind.wrap_u64]; omega
theorem incL_len (i : Nat) (F : List Int) : (incL i F).length = F.length := by
  unfold incL; rw [List.length_append, List.length_map, ← List.length_append, List.take_append_drop]
theorem decL_len (i : Nat) (F : List Int) : (decL i F).length = F.length := by
  unfold decL; rw [List.length_append, List.length_map, ← List.length_append, List.take_append_drop]
theorem incL_get {i : Nat} {F : List Int} (h : i < F.length) : (incL i F).getD i 0 = F.getD i 0 := by
  unfold incL
  have hl : ((F.take i).map (fun x => w64 (x + 1))).length = i := by rw [List.length_map, List.length_take]; omega
  simp only [List.getD_eq_getElem?_getD]
  rw [List.getElem?_append_right (by omega), hl, Nat.sub_self]
  simp
theorem incL_set {i : Nat} {F : List Int} (h : i < F.length) : (incL i F).set i (w64 (F.getD i 0 + 1)) = incL (i + 1) F := by
  unfold incL
  have hl : ((F.take i).map (fun x => w64 (x + 1))).length = i := by rw [List.length_map, List.length_take]; omega
  rw [List.set_append_right _ _ (by omega), hl, Nat.sub_self, drop_getD h, List.set_cons_zero, take_succ_getD F 0 h]
  simp
theorem decL_get {i : Nat} {F : List Int} (h : i < F.length) : (decL i F).getD i 0 = w64 (F.getD i 0 + 1) := by
  unfold decL
  have hl : (F.take i).length = i := by rw [List.length_take]; omega
  simp only [List.getD_eq_getElem?_getD]
  rw [List.getElem?_append_right (by omega), hl, Nat.sub_self, drop_getD h]
  simp [List.getD_eq_getElem?_getD]
theorem decL_set {i : Nat} {F : List Int} (h : i < F.length) : (decL i F).set i (F.getD i 0) = decL (i + 1) F := by
  unfold decL
  have hl : (F.take i).length = i := by rw [List.length_take]; omega
  rw [List.set_append_right _ _ (by omega), hl, Nat.sub_self, drop_getD h, List.map_cons, List.set_cons_zero, take_succ_getD F 0 h]
  simp
theorem inc_dec (F : List Int) : incL F.length F = decL 0 F := by
  unfold incL decL
  rw [List.take_length, List.drop_length, List.append_nil]
  simp
theorem decL_all (F : List Int) : decL F.length F = F := by
  unfold decL
  rw [List.take_length, List.drop_length]
  simp

/-- The law's four frontiers; K stands in the slice of the second. -/
structure St36 (w wr : World) (b5 b6 b8 : Nat) (d c D C : Int) (vL vX vG vH : Value) (L K F : List Int) : Prop where
  B : Below w.heap.size w wr
  k0 : Blk wr w.heap.size #[.int .i64 d, .int .i64 c, vL] 24
  k5 : Blk wr b5 #[.int .i64 d, .int .i64 c, vX] 28
  k6 : Blk wr b6 #[.int .i64 D, .int .i64 C, vG] 28
  k8 : Blk wr b8 #[.int .i64 D, .int .i64 C, vH] 24
  oX : Own wr w.heap.size 30 .u64 vX L
  oG : Own wr w.heap.size 30 .u64 vG K
  oH : Own wr w.heap.size 30 .u64 vH F
  nX : ∀ g, vG.ownBlock = some g → vX.ownBlock ≠ some g
  nH : ∀ g, vG.ownBlock = some g → vH.ownBlock ≠ some g

theorem Own.ne_blk {w : World} {base g : Nat} {E : TypeId} {k : IntKind} {v : Value} {xs : List Int} {b : Nat} {cs : Array Value} {T : TypeId} (h : Own w base E k v xs) (e : v.ownBlock = some g) (k : Blk w b cs T) (hT : ¬ E = T) : g ≠ b := fun e2 => own_ne_blk h k hT (by rw [e, e2])

theorem St36.set {w wr : World} {b5 b6 b8 : Nat} {d c D C : Int} {vL vX vH : Value} {L K F : List Int} {g n cap : Nat} (h : St36 w wr b5 b6 b8 d c D C vL vX (.slice (some ⟨g, 0, none⟩) n cap) vH L K F) (j : Nat) (y : Int) :
    St36 w (wr.setCell ⟨g, j, none⟩ (.int .u64 y)) b5 b6 b8 d c D C vL vX (.slice (some ⟨g, 0, none⟩) n cap) vH L (K.set j y) F :=
  ⟨h.B.setCell (p := ⟨g, j, none⟩) (show w.heap.size ≤ g from (h.oG.lt rfl).1) _, h.k0.other (h.oG.ne_blk rfl h.k0 (by decide)) _ _, h.k5.other (h.oG.ne_blk rfl h.k5 (by decide)) _ _,
    h.k6.other (h.oG.ne_blk rfl h.k6 (by decide)) _ _, h.k8.other (h.oG.ne_blk rfl h.k8 (by decide)) _ _, h.oX.other (h.nX g rfl) _, h.oG.set j y, h.oH.other (h.nH g rfl) _, h.nX, h.nH⟩
theorem St36.mono {w wr w' : World} {b5 b6 b8 : Nat} {d c D C : Int} {vL vX vG vH : Value} {L K F : List Int} (h : St36 w wr b5 b6 b8 d c D C vL vX vG vH L K F) (hb : Below wr.heap.size wr w') : St36 w w' b5 b6 b8 d c D C vL vX vG vH L K F :=
  ⟨below2 h.B hb, h.k0.mono hb, h.k5.mono hb, h.k6.mono hb, h.k8.mono hb, h.oX.mono hb, h.oG.mono hb, h.oH.mono hb, h.nX, h.nH⟩

end Go.Proofs.Ythkdaoomnfgooaa
