/- A block known whole as a slice; calls among the relational operations of a region. -/
import Derived.Test.YthkdaoomnfgooaaSpongeC
namespace Go.Proofs.Ythkdaoomnfgooaa
open Go.RowKit

theorem Sl.blk {w : World} {b : Nat} {cs : Array Value} {T : TypeId} {k : IntKind} (xs : List Int) (h : Blk w b cs T) (hc : cs = (xs.map (Value.int k)).toArray) : Sl w k (some ⟨b, 0, none⟩) xs := fun _ =>
  ⟨b, 0, rfl, h.lt, fun i hi => h.cell (by subst hc; simp [List.getD_eq_getElem?_getD, List.getElem?_eq_getElem hi])⟩

theorem rUpon_sl {P : Program} {f : FuncId} {args : Array Value} {W : World} {p : Later} {E : TypeId} {k : IntKind} {xs : List Int} (h : Calls P f args (later W p) (RetSl (later W p) E k xs)) :
    Rel.rUpon P (later W p) false (fun v w => Own w W.heap.size E k v xs) (.ok (.enter f args) (later W p)) :=
  ⟨rfl, h.mono fun _ _ ⟨v, he, hown, hb⟩ => ⟨v, he, hb, hown.low (below_later W p).size, fun h => by cases h⟩⟩

theorem rUpon_q {P : Program} {f : FuncId} {args : Array Value} {W : World} {p : Later} {v : Value} (h : Calls P f args (later W p) fun e w' => e = .returned v ∧ Below (later W p).heap.size (later W p) w') :
    Rel.rUpon P (later W p) false (fun u _ => u = v) (.ok (.enter f args) (later W p)) :=
  ⟨rfl, h.mono fun _ _ ⟨he, hb⟩ => ⟨v, he, hb, rfl, fun h => by cases h⟩⟩

end Go.Proofs.Ythkdaoomnfgooaa
