/- A region that draws: two operations, one behind the other, and a third beside them; all that follows waits for them. -/
import Derived.Test.YtlgjnidphldiiaaHeld
namespace Go.Proofs.Ytlgjnidphldiiaa
open Go.RowKit
namespace Rel
section
variable {P : Program} {Q : Exit → Act → World → Prop} {md : Region.Mode} {S : World → Prop} {z : Nat}

theorem upon_rU {w : World} {o : Oper} {a : Act} {K : Act → World → Prop} {φ : Value → World → Prop} {r : Result Next} (h : rUpon P w false φ r) (hK : ∀ v w', Below w.heap.size w w' → φ v w' → K (a.put o.dst v) w') : o.upon P a K Q r := by
  cases r with
  | ok x w' =>
    cases x <;> simp only [rUpon] at h
    · exact hK _ _ h.1 h.2.1
    · obtain ⟨rfl, h⟩ := h
      rw [Oper.upon_enter]
      refine h.mono ?_
      rintro e w'' ⟨v, rfl, h1, h2, _⟩
      exact hK _ _ h1 h2
  | halt x w' => simp only [rUpon] at h
theorem put_comm {a : Act} {d e : Nat} (h : d ≠ e) (u v : Value) : (a.put (some d) u).put (some e) v = (a.put (some e) v).put (some d) u := by
  unfold Act.put
  simp only
  rw [Array.setIfInBounds_comm _ _ h]

/-- i, then j; k beside them. -/
theorem heldFork (i j k : Nat) {l : List Oper} {oi oj ok : Oper} {di dj dk : Nat} {fuel : Nat} {listed : Array Bool} {a : Act} {w : World} (φi φj φk : Value → World → Prop)
    (gi : nth l i = some oi) (gj : nth l j = some oj) (gk : nth l k = some ok) (ei : oi.dst = some di) (ej : oj.dst = some dj) (ek : ok.dst = some dk) (ni : oi.guard = none) (nj : oj.guard = none) (nk : ok.guard = none)
    (hne : (di != dj && di != dk && dj != dk && i != j && i != k && j != k) = true)
    (r0 : Region.ready md l.toArray listed = [i, k]) (ri : Region.ready md l.toArray (listed.setIfInBounds i true) = [j, k]) (rk : Region.ready md l.toArray (listed.setIfInBounds k true) = [i])
    (rij : Region.ready md l.toArray ((listed.setIfInBounds i true).setIfInBounds j true) = [k]) (rik : Region.ready md l.toArray ((listed.setIfInBounds i true).setIfInBounds k true) = [j])
    (hi : ∀ w', Below w.heap.size w w' → rUpon P w' false φi ((execOp a.eval oi).run P w'))
    (hk : ∀ w', Below w.heap.size w w' → rUpon P w' false φk ((execOp a.eval ok).run P w'))
    (hj : ∀ vi w', Below w.heap.size w w' → φi vi w' → rUpon P w' false φj ((execOp (a.put (some di) vi).eval oj).run P w'))
    (si : ∀ v w1 w2, φi v w1 → Below w1.heap.size w1 w2 → φi v w2) (sj : ∀ v w1 w2, φj v w1 → Below w1.heap.size w1 w2 → φj v w2) (sk : ∀ v w1 w2, φk v w1 → Below w1.heap.size w1 w2 → φk v w2)
    (qk : ∀ v, execOp (a.put (some di) v).eval ok = execOp a.eval ok) (qk2 : ∀ v u, execOp ((a.put (some di) v).put (some dj) u).eval ok = execOp a.eval ok) (qi : ∀ v, execOp (a.put (some dk) v).eval oi = execOp a.eval oi)
    (qj : ∀ v u, execOp ((a.put (some di) v).put (some dk) u).eval oj = execOp (a.put (some di) v).eval oj)
    (hS : ∀ w', Below w.heap.size w w' → S w')
    (h : ∀ vi vj vk w', Below w.heap.size w w' → φj vj w' → φk vk w' → wpAnyL P md l.toArray Q S z fuel (((listed.setIfInBounds i true).setIfInBounds j true).setIfInBounds k true) (((a.put (some di) vi).put (some dj) vj).put (some dk) vk) w') :
    wpAnyL P md l.toArray Q S z (fuel + 3) listed a w := by
  simp only [Bool.and_eq_true, bne_iff_ne] at hne
  obtain ⟨⟨⟨⟨⟨n1, n2⟩, n3⟩, n4⟩, n5⟩, n6⟩ := hne
  have one : ∀ {o : Oper} {x : Nat} {d : Nat} {f : Nat} {L L' : Array Bool} {a' : Act} {w' : World} (φ : Value → World → Prop), nth l x = some o → o.dst = some d → o.guard = none → L' = L.setIfInBounds x true → Below w.heap.size w w' → rUpon P w' false φ ((execOp a'.eval o).run P w') →
      (∀ v w'', Below w.heap.size w w'' → Below w'.heap.size w' w'' → φ v w'' → wpAnyL P md l.toArray Q S z f L' (a'.put (some d) v) w'') → wpOp P l.toArray Q x (fun a2 w2 => (x = z ∨ S w2) ∧ wpAnyL P md l.toArray Q S z f (L.setIfInBounds x true) a2 w2) a' w' := by
    intro o x d f L L' a' w' φ g e n hL hb hr hc
    subst hL
    refine wpOp_step (by rw [← nth_eq]; exact g) fun K hK => ?_
    rw [if_pos (by simp only [Region.wanted, n])]
    refine upon_rU hr fun v w'' h1 h2 => hK _ _ ?_
    have h3 := hb.trans (h1.mono hb.size)
    rw [e]
    exact ⟨.inr (hS _ h3), hc v w'' h3 h1 h2⟩
  have last : ∀ {x : Nat} {f : Nat} {L : Array Bool} {a' : Act} {w' : World}, Region.ready md l.toArray L = [x] → wpOp P l.toArray Q x (fun a2 w2 => (x = z ∨ S w2) ∧ wpAnyL P md l.toArray Q S z f (L.setIfInBounds x true) a2 w2) a' w' → wpAnyL P md l.toArray Q S z (f + 1) L a' w' := by
    intro x f L a' w' hr h
    refine ⟨fun h0 => absurd (hr ▸ h0) (by simp), fun y hy => ?_⟩
    rw [hr, List.mem_singleton] at hy
    subst hy
    exact h
  have two : ∀ {x y : Nat} {f : Nat} {L : Array Bool} {a' : Act} {w' : World}, Region.ready md l.toArray L = [x, y] → wpOp P l.toArray Q x (fun a2 w2 => (x = z ∨ S w2) ∧ wpAnyL P md l.toArray Q S z f (L.setIfInBounds x true) a2 w2) a' w' → wpOp P l.toArray Q y (fun a2 w2 => (y = z ∨ S w2) ∧ wpAnyL P md l.toArray Q S z f (L.setIfInBounds y true) a2 w2) a' w' → wpAnyL P md l.toArray Q S z (f + 1) L a' w' := by
    intro x y f L a' w' hr h1 h2
    refine ⟨fun h0 => absurd (hr ▸ h0) (by simp), fun u hu => ?_⟩
    rw [hr] at hu
    simp only [List.mem_cons, List.not_mem_nil, or_false] at hu
    rcases hu with rfl | rfl
    · exact h1
    · exact h2
  have b0 := Below.refl w.heap.size w
  refine two r0 ?_ ?_
  · refine one φi gi ei ni rfl b0 (hi w b0) fun vi w1 b1 c1 p1 => two ri ?_ ?_
    · refine one φj gj ej nj rfl b1 (hj vi w1 b1 p1) fun vj w2 b2 c2 p2 => last rij ?_
      refine one φk gk ek nk rfl b2 (by rw [qk2]; exact hk w2 b2) fun vk w3 b3 c3 p3 => ?_
      exact h vi vj vk w3 b3 (sj _ _ _ p2 c3) p3
    · refine one φk gk ek nk rfl b1 (by rw [qk]; exact hk w1 b1) fun vk w2 b2 c2 p2 => last rik ?_
      refine one φj gj ej nj (Array.setIfInBounds_comm _ _ n6) b2 (by rw [qj]; exact hj vi w2 b2 (si _ _ _ p1 c2)) fun vj w3 b3 c3 p3 => ?_
      rw [put_comm (Ne.symm n3)]
      exact h vi vj vk w3 b3 p3 (sk _ _ _ p2 c3)
  · refine one φk gk ek nk rfl b0 (hk w b0) fun vk w1 b1 c1 p1 => last rk ?_
    refine one φi gi ei ni (Array.setIfInBounds_comm _ _ n5) b1 (by rw [qi]; exact hi w1 b1) fun vi w2 b2 c2 p2 => ?_
    rw [put_comm (Ne.symm n2)]
    refine last rik ?_
    refine one φj gj ej nj (Array.setIfInBounds_comm _ _ n6) b2 (by rw [qj]; exact hj vi w2 b2 p2) fun vj w3 b3 c3 p3 => ?_
    rw [put_comm (Ne.symm n3)]
    exact h vi vj vk w3 b3 p3 (sk _ _ _ (sk _ _ _ p1 c2) c3)
end
end Rel
end Go.Proofs.Ytlgjnidphldiiaa
