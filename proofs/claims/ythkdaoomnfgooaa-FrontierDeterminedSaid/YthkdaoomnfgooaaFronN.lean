/- Trees of all their places: Places and Naive. -/
import Derived.Test.YthkdaoomnfgooaaFronL
namespace Go.Proofs.Ythkdaoomnfgooaa
open Go.RowKit

theorem rep_snoc (l : List Int) (i : Nat) (e : Int) : l ++ List.replicate i e ++ [e] = l ++ List.replicate (i + 1) e := by
  rw [List.replicate_succ', List.append_assoc]
theorem places_len {n : Nat} {l : List Int} (h : l.length ≤ 2 ^ n) : (placesL n l).length = 2 ^ n := by
  unfold placesL; rw [List.length_append, List.length_replicate]; omega
theorem places_W {n : Nat} {l : List Int} (h : AllW l) : AllW (placesL n l) := fun x hx => by
  unfold placesL at hx
  rcases List.mem_append.1 hx with h1 | h1
  · exact h x h1
  · rw [(List.mem_replicate.1 h1).2]; exact emp_bd 0

/-- append of one element, which lies in the block just made; its number by an equation. -/
theorem wpList_appY {P : Program} (w : World) {ops : Array Oper} {rest : List Oper} {o : Oper} {a : Act} {Q : Exit → Act → World → Prop} (E : TypeId) (k : IntKind) (y : Int) (hgd : o.guard = none) (s x : Operand) (t : TypeId)
    (ho : o.op = .call { callee := .builtin .append, args := #[s, x], argTypes := #[t, t] })
    (base : Nat) (bytes : Nat) (ht : P.underlying t = some (.slice E)) (hinfo : (P.info? E).map (fun i => (i.zero, i.size, i.bytes)) = some (some (.int k 0), 1, bytes)) (h8 : bytes ≤ 8)
    (v : Value) (xs : List Int) (z : Nat) (hs : a.eval s = v) (hx : a.eval x = .slice (some ⟨z, 0, none⟩) 1 1) (hz : z = w.heap.size) (hown : Own w base E k v xs) (hlen : xs.length < 1099511627775) (hbase : base ≤ w.heap.size)
    (h : ∀ v' w', Own w' base E k v' (xs ++ [y]) → Grew w w' v v' → wpList P ops Q rest (a.put o.dst v') w') : wpList P ops Q (o :: rest) a (w.alloc (.cells #[.int k y] E)) :=
  wpList_app1 w E k y hgd s x t ho base bytes ht hinfo h8 v xs hs (by rw [hx, hz]) hown hlen hbase h

def sLen : Value → Nat | .slice _ n _ => n | _ => 0

set_option maxRecDepth 10000 in
set_option maxHeartbeats 4000000 in
theorem Places_any (n : Nat) (ad : Option Addr) (cap : Nat) (l : List Int) (w : World) (hs : Sl w .u64 ad l) (hn : n ≤ 12) (hl : l.length ≤ 2 ^ n) :
    Calls Try.prog 38 #[.int .i64 n, .slice ad l.length cap] w (RetSl w 30 .u64 (placesL n l)) := by
  obtain ⟨p1, p2⟩ := pow_le12 hn
  have epow : ((2 : Int) ^ n) = ((2 ^ n : Nat) : Int) := (Int.natCast_pow 2 _).symm
  unfold placesL
  obtain ⟨M, hM⟩ : ∃ M : Nat, M = 2 ^ n := ⟨_, rfl⟩
  rw [← hM] at hl p1 p2 ⊢
  have hwp : IntKind.i64.wrap ((2 : Int) ^ n) = M := by rw [epow, ← hM, IntKind.wrap_i64]; omega
  replace hM := hide hM
  have hn' : (n : Int) ≤ 12 := by omega
  have cE := fun W : World => rEmpty_any 0 W
  have e0 : empI 0 = emp 0 := rfl
  rw [e0] at cE
  obtain ⟨E, hE⟩ : ∃ E, E = emp 0 := ⟨_, rfl⟩
  rw [← hE] at cE ⊢
  clear epow e0 hE
  go_enter Try.func38, Try.ntmps38
  go_wp2_with (at_builtin; refine wpList_app _ rfl _ _ 22 rfl w.heap.size 30 .u64 8 Try.underlying22 Try.infoU64 (by decide) _ [] l cap _ rfl rfl (Own.empty (Nat.le_refl _)) (hs.alloc _) (by simp; omega) (by simp) ?_; intro v' w' hown hg; refine Hold.mk ?_)
  refine Hold.go ?_
  have hB : Below w.heap.size w w' := hg.below ((Below.refl _ _).alloc (Nat.le_refl _) _) (Own.empty (base := w.heap.size) (k := .u64) (Nat.le_refl _)) (Nat.le_refl _) (by simp)
  rw [List.nil_append] at hown
  clear hg
  go_wp2_with fail
  go_loopw [5] (fun t5 wr => Below w.heap.size w wr ∧ ∃ i : Nat, l.length + i ≤ M ∧ Own wr w.heap.size 30 .u64 t5 (l ++ List.replicate i E)) (fun t5 _ => M - (sLen t5))
  case atStart => exact ⟨hB, 0, by omega, by simpa using hown⟩
  case round =>
    clear hB hown
    obtain ⟨hB, i, hi, ho⟩ := hrel
    obtain ⟨X, hX⟩ : ∃ X, X = l ++ List.replicate i E := ⟨_, rfl⟩
    have hXl : X.length = l.length + i := by rw [hX]; simp
    have hXn : X ++ [E] = l ++ List.replicate (i + 1) E := by rw [hX]; exact rep_snoc _ _ _
    rw [← hX] at ho
    obtain ⟨a, c, rfl, _, _, _⟩ := Own.sl ho
    replace hXl := hide hXl
    by_cases hlt : X.length < M
    · clear hX
      replace hXn := hide hXn
      have hlt' : (X.length : Int) < M := by omega
      go_wp2_with fail
      go_wp2_with fail
      refine (cE _).mono ?_
      rintro ew2 w2 ⟨rfl, hb2⟩
      have ho2 := ho.mono hb2
      have hB2 := below2 hB hb2
      clear cE hb2 ho hB
      go_wp2_with (at_builtin; (refine wpList_appY _ 30 .u64 _ rfl _ _ 22 rfl w.heap.size 8 Try.underlying22 Try.infoU64 (by decide) _ X _ rfl rfl (by simp) ho2 (by omega) hB2.size ?_; intro v' w' hown hg; refine Hold.mk ?_))
      refine Hold.go ?_
      have hB3 := hg.below hB2 ho2 (Nat.le_refl _) hB2.size
      obtain ⟨a3, c3, rfl, _, _, _⟩ := Own.sl hown
      clear hg ho2 hB2
      go_wp2
      go_roundw
      case rel => exact ⟨hB3, i + 1, by have := hXl.out; omega, by rw [← hXn.out]; exact hown⟩
      case measure => simp [sLen]; omega
    · have hXe : X = l ++ List.replicate (M - l.length) E := by rw [hX, show M - l.length = i by have := hXl.out; omega]
      have hlt' : (M : Int) ≤ X.length := by omega
      clear hX hXn
      replace hXe := hide hXe
      go_wp2
      go_ret
      exact ⟨_, rfl, by rw [← hXe.out]; exact ho, hB⟩

end Go.Proofs.Ythkdaoomnfgooaa
