/- Circuits: the relations of drawn regions. -/
import Derived.Test.YtlflkddgdbdebaaCircB
import Derived.Test.YtlflkddgdbdebaaMix
namespace Go.Proofs.Ytlflkddgdbdebaa
open Go.RowKit

theorem rU_sl {P : Program} {f : FuncId} {args : Array Value} {W : World} {p : Later} {E : TypeId} {k : IntKind} {xs : List Int} (h : Calls P f args (later W p) (RetSl (later W p) E k xs)) :
    Rel.rUpon P (later W p) false (fun v w => Own w W.heap.size E k v xs) (.ok (.enter f args) (later W p)) :=
  ⟨rfl, h.mono fun _ _ ⟨v, he, hown, hb⟩ => ⟨v, he, hb, hown.low (below_later W p).size, fun h => by cases h⟩⟩
theorem rU_val {P : Program} {W : World} {p : Later} {u : Value} {φ : Value → World → Prop} (h : φ u (later W p)) : Rel.rUpon P (later W p) false φ (.ok (.value u) (later W p)) :=
  ⟨Below.refl _ _, h, fun h => by cases h⟩
theorem rU_of {P : Program} {w : World} {fr fr' : Bool} {φ : Value → World → Prop} {r r' : Result Next} (hf : fr' = fr) (h : r' = r) (h2 : Rel.rUpon P w fr φ r) : Rel.rUpon P w fr' φ r' := by
  subst hf h; exact h2
/-- The pair that Run and Satisfy return. -/
def IsTup (b : Nat) (L : List Int) (E : Int) (v : Value) (w : World) : Prop := ∃ u, v = .tuple #[u, .int .i64 E] ∧ Own w b 22 .u64 u L
theorem IsTup.mono {b : Nat} {L : List Int} {E : Int} {v : Value} {w w' : World} (h : IsTup b L E v w) (hb : Below w.heap.size w w') : IsTup b L E v w' := by
  obtain ⟨u, e, ho⟩ := h
  exact ⟨u, e, ho.mono hb⟩
theorem rU_tup {P : Program} {f : FuncId} {args : Array Value} {W : World} {p : Later} {L : List Int} {E : Int} (h : Calls P f args (later W p) (RetR (later W p) L E)) :
    Rel.rUpon P (later W p) false (IsTup W.heap.size L E) (.ok (.enter f args) (later W p)) :=
  ⟨rfl, h.mono fun _ _ ⟨v, he, hown, hb⟩ => ⟨_, he, hb, ⟨v, rfl, hown.low (below_later W p).size⟩, fun h => by cases h⟩⟩
theorem slp_len {w : World} {k : IntKind} {a : Option Addr} {c : Nat} {xs : List Int} (h : SlP w k a c xs) : xs.length ≤ 9223372036854775807 := by
  have h1 := h.le
  have h2 := h.max
  simp only [maxLen] at h2
  omega
theorem short_len {R : List Rw} {H : List Hn} {u s : List Int} (h : shortC R H u s = true) : u.length ≤ 60 ∧ s.length ≤ 60 := by
  unfold shortC at h
  simp only [Bool.and_eq_true, decide_eq_true_eq] at h
  exact h.1
theorem runL_len {p pub vars sec : Int} {R : List Rw} {H : List Hn} {u s : List Int} : (runL p pub vars R sec H u s).length ≤ 65536 := by
  unfold runL
  split
  · rename_i h
    unfold runOk at h
    rw [Bool.and_eq_true] at h
    obtain ⟨hT, _, hv, _⟩ := cir_bd h.1
    obtain ⟨_, _, _, hp2, _⟩ := tbl_bd hT
    have hi := of_decide_eq_true h.2
    rw [runH_len, List.length_cons, List.length_append]
    omega
  · simp
theorem satL_len {p pub vars sec : Int} {R : List Rw} {H : List Hn} {u s : List Int} : (satL p pub vars R sec H u s).length ≤ 65536 := by
  unfold satL
  split
  · exact runL_len
  · simp
end Go.Proofs.Ytlflkddgdbdebaa
