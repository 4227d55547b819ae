/- The contracts of mixing in the reference, and of unmixing. -/
import Derived.Test.YtlflkddgdbdebaaPerm
namespace Go.Proofs.Ytlflkddgdbdebaa
open Go.RowKit

theorem FillAt.next {w wr w2 : World} {b0 b1 bo : Nat} {s m : T3} {k : Nat} (H : FillAt w wr b0 b1 bo s m k) (hb : Below wr.heap.size wr w2) (v : Value) (he : (outA m k).setIfInBounds k v = outA m (k + 1)) :
    FillAt w (w2.setCell ⟨bo, k, none⟩ v) b0 b1 bo s m (k + 1) :=
  ⟨(H.src.mono hb).other H.d0 _ _, (H.res.mono hb).other H.d1 _ _, by have := (H.out.mono hb).set k v; rwa [he] at this,
    (H.b.trans (hb.mono H.b.size)).setCell (by exact H.no) _, H.n0, H.n1, H.no, H.d0, H.d1⟩

/-- The end: the array that has been filled is copied into the result. -/
theorem FillAt.end_ {w wr : World} {b0 b1 bo : Nat} {s m : T3} (H : FillAt w wr b0 b1 bo s m 3) (x y z : Value) :
    Below w.heap.size w (((wr.setCell ⟨b1, 0, none⟩ x).setCell ⟨b1, 1, none⟩ y).setCell ⟨b1, 2, none⟩ z) :=
  ((H.b.setCell (by exact H.n1) _).setCell (by exact H.n1) _).setCell (by exact H.n1) _

end Go.Proofs.Ytlflkddgdbdebaa
