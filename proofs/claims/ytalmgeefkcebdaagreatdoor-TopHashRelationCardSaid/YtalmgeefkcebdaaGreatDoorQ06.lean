/- Slices whose elements take several cells, of the call's own: what it is to own one, and append, for the walk. -/
import Derived.Test.YtalmgeefkcebdaaGreatDoorQ05
import Derived.Deep.AppendLies
import Derived.Shelf.Small.Strs
import Derived.Shelf.LaysM
import Derived.Shelf.Strings.Search1
import Derived.Shelf.Strings.Search2
import Derived.Shelf.Strings.Search3
import Derived.Shelf.Strings.Shaped
namespace Go.Proofs.YtalmgeefkcebdaaGreatDoor
open Go.RowKit

/-- How an element lies: its cells. -/
structure Lay (α : Type) where
  f : α → List Value
  m : Nat
  len : ∀ x, (f x).length = m
  pos : 0 < m
  one : ∀ x, ∀ u ∈ f x, u.oneCell' = true

section
variable {α : Type} (L : Lay α)

theorem Lay.flat_len (xs : List α) : (xs.flatMap L.f).length = xs.length * L.m := by
  induction xs with
  | nil => simp
  | cons x xs ih => rw [List.flatMap_cons, List.length_append, ih, L.len, List.length_cons, Nat.add_mul]; omega
theorem Lay.flat_get : ∀ (xs : List α) (d : α) {i j : Nat}, i < xs.length → j < L.m → (xs.flatMap L.f)[i * L.m + j]? = (L.f (xs.getD i d))[j]?
  | x :: xs, d, 0, j, _, hj => by
    rw [List.flatMap_cons, List.getElem?_append_left (by rw [L.len]; omega), Nat.zero_mul, Nat.zero_add]
    rfl
  | x :: xs, d, i + 1, j, hi, hj => by
    have e : (i + 1) * L.m + j - L.m = i * L.m + j := by rw [Nat.add_mul]; omega
    have h1 : L.m ≤ (i + 1) * L.m + j := by rw [Nat.add_mul]; omega
    rw [List.flatMap_cons, List.getElem?_append_right (by rw [L.len]; exact h1), L.len, e, Lay.flat_get xs d (by simpa using hi) hj]
    rfl
theorem Lay.flat_one (xs : List α) : ∀ u ∈ xs.flatMap L.f, u.oneCell' = true := fun u hu => by
  obtain ⟨x, _, hx⟩ := List.mem_flatMap.1 hu
  exact L.one x u hx

/-- A slice that reads as xs, wherever it lies. -/
def SlG (w : World) (a : Option Addr) (xs : List α) : Prop :=
  0 < xs.length → ∃ b off, a = some ⟨b, off, none⟩ ∧ b < w.heap.size ∧ ∀ k u, (xs.flatMap L.f)[k]? = some u → w.cell? ⟨b, off + k, none⟩ = some u
theorem SlG.mono {L : Lay α} {w w' : World} {a : Option Addr} {xs : List α} (h : SlG L w a xs) (hb : Below w.heap.size w w') : SlG L w' a xs := fun h0 => by
  obtain ⟨b, off, e, hl, hc⟩ := h h0
  exact ⟨b, off, e, Nat.lt_of_lt_of_le hl hb.size, fun k u hu => cell_below hb (hc k u hu)⟩
theorem SlG.alloc {L : Lay α} {w : World} {a : Option Addr} {xs : List α} (h : SlG L w a xs) (o : Obj) : SlG L (w.alloc o) a xs := h.mono ((Below.refl _ _).alloc (Nat.le_refl _) o)
theorem SlG.nil (w : World) (a : Option Addr) : SlG L w a ([] : List α) := fun h => absurd h (by simp)

/-- v is a slice of the call's own: the list xs. -/
def OwnG (w : World) (base : Nat) (E : TypeId) (v : Value) (xs : List α) : Prop := w.ownsRow base E L.m v xs.length (xs.flatMap L.f)
end

section
variable {α : Type} {L : Lay α} {w w' : World} {base : Nat} {E : TypeId} {v : Value} {xs : List α}

theorem OwnG.nil (L : Lay α) (w : World) (base : Nat) (E : TypeId) : OwnG L w base E (.slice none 0 0) [] := World.ownsRow_nil w base E L.m
theorem OwnG.lt (h : OwnG L w base E v xs) {b : Nat} (hb : v.ownBlock = some b) : base ≤ b ∧ b < w.heap.size := World.ownsRow.lt h b hb
theorem OwnG.form (h : OwnG L w base E v xs) : (v = .slice none 0 0 ∧ xs = []) ∨ ∃ g cap cur, v = .slice (some ⟨g, 0, none⟩) xs.length cap ∧ base ≤ g ∧ Blk w g cur E ∧ xs.length ≤ cap ∧ cap ≤ maxLen ∧ cur.size = cap * L.m ∧ cur.toList.take (xs.length * L.m) = xs.flatMap L.f := by
  obtain ⟨_, h2⟩ := h
  rcases h2 with ⟨h3, h4⟩ | ⟨g, cap, cur, h3, h4, h5, h6, h7, h8, h9⟩
  · exact .inl ⟨h3, List.eq_nil_of_length_eq_zero h4⟩
  · exact .inr ⟨g, cap, cur, h3, h4, h5, h6, h7, h8, h9⟩
theorem OwnG.of_blk {g cap : Nat} {cur : Array Value} (hb : base ≤ g) (h : Blk w g cur E) (h1 : xs.length ≤ cap) (h2 : cap ≤ maxLen) (h3 : cur.size = cap * L.m) (h4 : cur.toList.take (xs.length * L.m) = xs.flatMap L.f) : OwnG L w base E (.slice (some ⟨g, 0, none⟩) xs.length cap) xs :=
  ⟨L.flat_len xs, .inr ⟨g, cap, cur, rfl, hb, h, h1, h2, h3, h4⟩⟩
theorem OwnG.mono (h : OwnG L w base E v xs) (hb : Below w.heap.size w w') : OwnG L w' base E v xs := by
  rcases h.form with ⟨rfl, rfl⟩ | ⟨g, cap, cur, rfl, h1, h2, h3, h4, h5, h6⟩
  · exact OwnG.nil _ _ _ _
  · exact OwnG.of_blk h1 (h2.mono hb) h3 h4 h5 h6
theorem OwnG.alloc (h : OwnG L w base E v xs) (o : Obj) : OwnG L (w.alloc o) base E v xs := h.mono ((Below.refl _ _).alloc (Nat.le_refl _) o)
theorem OwnG.low (h : OwnG L w base E v xs) {b : Nat} (hb : b ≤ base) : OwnG L w b E v xs := by
  rcases h.form with ⟨rfl, rfl⟩ | ⟨g, cap, cur, rfl, h1, h2, h3, h4, h5, h6⟩
  · exact OwnG.nil _ _ _ _
  · exact OwnG.of_blk (Nat.le_trans hb h1) h2 h3 h4 h5 h6
theorem OwnG.other (h : OwnG L w base E v xs) {b j : Nat} (hn : v.ownBlock ≠ some b) (u : Value) : OwnG L (w.setCell ⟨b, j, none⟩ u) base E v xs := by
  rcases h.form with ⟨rfl, rfl⟩ | ⟨g, cap, cur, rfl, h1, h2, h3, h4, h5, h6⟩
  · exact OwnG.nil _ _ _ _
  · exact OwnG.of_blk h1 (h2.other (fun e => hn (by simp [Value.ownBlock, e])) _ _) h3 h4 h5 h6
theorem OwnG.neq {b : Nat} {cs : Array Value} {T : TypeId} (h : OwnG L w base E v xs) (g : Blk w b cs T) (hT : ¬ E = T) : v.ownBlock ≠ some b := fun e => by
  rcases h.form with ⟨rfl, _⟩ | ⟨g', cap, cur, rfl, _, hgb, _⟩
  · cases e
  · injection e with e
    subst e
    have := hgb.symm.trans g
    injection this with this
    injection this with _ this
    exact hT this
/-- As a slice that holds the list. -/
theorem OwnG.sl (h : OwnG L w base E v xs) : ∃ ad c, v = .slice ad xs.length c ∧ SlG L w ad xs ∧ xs.length ≤ c ∧ c ≤ maxLen ∧ (ad = none → c = 0) := by
  rcases h.form with ⟨rfl, rfl⟩ | ⟨g, cap, cur, rfl, h1, h2, h3, h4, h5, h6⟩
  · exact ⟨none, 0, rfl, SlG.nil _ _ _, Nat.le_refl _, by simp, fun _ => rfl⟩
  · refine ⟨_, cap, rfl, fun h0 => ⟨g, 0, rfl, h2.lt, fun k u hu => ?_⟩, h3, h4, fun e => by cases e⟩
    rw [Nat.zero_add]
    refine h2.cell ?_
    rw [← h6, List.getElem?_take] at hu
    split at hu
    · simpa using hu
    · cases hu
/-- []T{}, just made. -/
theorem OwnG.empty {w : World} {base : Nat} {E : TypeId} (hb : base ≤ w.heap.size) : OwnG L (w.alloc (.cells #[] E)) base E (.slice (some ⟨w.heap.size, 0, none⟩) 0 0) [] :=
  OwnG.of_blk (xs := []) hb (Blk.new w #[] E) (Nat.le_refl _) (by simp) (by simp) (by simp)

theorem SlG.one {w : World} {b : Nat} {cs : Array Value} {T : TypeId} {x : α} (g : Blk w b cs T) (e : cs.toList = L.f x) : SlG L w (some ⟨b, 0, none⟩) [x] := fun _ =>
  ⟨b, 0, rfl, g.lt, fun k u hu => by
    rw [Nat.zero_add]
    refine g.cell ?_
    rw [List.flatMap_cons, List.flatMap_nil, List.append_nil, ← e] at hu
    simpa using hu⟩

theorem addr_add0 (b off j : Nat) : (⟨b, off, none⟩ : Addr).add j = ⟨b, off + j, none⟩ := by unfold Addr.add; split <;> simp_all

theorem info_partsG {P : Program} {E : TypeId} {z : Value} {m bytes : Nat} (hinfo : (P.info? E).map (fun i => (i.zero, i.size, i.bytes)) = some (some z, m, bytes)) : ∃ i, P.info? E = some i ∧ i.zero = some z ∧ i.size = m ∧ i.bytes = bytes := by
  cases h : P.info? E with
  | none => rw [h] at hinfo; cases hinfo
  | some i =>
    rw [h] at hinfo
    simp only [Option.map_some, Option.some.injEq, Prod.mk.injEq] at hinfo
    exact ⟨i, rfl, hinfo.1, hinfo.2.1, hinfo.2.2⟩

/-- append of any slice onto one of the call's own. -/
theorem run_appG {P : Program} {w : World} {t ty E : TypeId} {z : Value} {bytes : Nat} (ht : P.underlying t = some (.slice E)) (hinfo : (P.info? E).map (fun i => (i.zero, i.size, i.bytes)) = some (some z, L.m, bytes)) (hz : z.cells.size = L.m) (h8 : bytes ≤ 128)
    {base c : Nat} {v : Value} {xs ys : List α} {A : Option Addr} (hown : OwnG L w base E v xs) (hsl : SlG L w A ys) (hlen : xs.length + ys.length < 68719476736) (hbase : base ≤ w.heap.size) :
    ∃ v' w', (Builtin.append_ #[t, t] ty #[v, .slice A ys.length c]).run P w = .ok v' w' ∧ OwnG L w' base E v' (xs ++ ys) ∧ w.grownBy w' v.ownBlock ∧ (v'.ownBlock = v.ownBlock ∨ v'.ownBlock = some w.heap.size) := by
  obtain ⟨i, hi, hzi, hsz, hby⟩ := info_partsG hinfo
  have h47 : (xs.length + ys.length) * bytes ≤ 140737488355328 := by
    have : (xs.length + ys.length) * bytes ≤ (xs.length + ys.length) * 128 := Nat.mul_le_mul_left _ h8
    omega
  have fin : ∀ v' w', w'.ownsRow base E L.m v' (xs.length + ys.length) (xs.flatMap L.f ++ ys.flatMap L.f) → OwnG L w' base E v' (xs ++ ys) := fun v' w' h => by
    unfold OwnG
    rw [List.length_append, List.flatMap_append]; exact h
  rcases Nat.eq_zero_or_pos ys.length with h0 | h0
  · obtain rfl := List.eq_nil_of_length_eq_zero h0
    rcases A with _ | ad
    · refine ⟨v, w, ?_, by simpa using hown, ⟨rfl, rfl, rfl, Nat.le_refl _, fun _ _ _ => rfl⟩, .inl rfl⟩
      rcases hown.2 with ⟨rfl, h4⟩ | ⟨g, cap, cur, rfl, _, _, hnc, _⟩
      · simp [Builtin.append_, run_underlying ht, sizeOf, typeInfo, hi, Builtin.lenOf, Builtin.firstCells]
      · simp [Builtin.append_, run_underlying ht, sizeOf, typeInfo, hi, Builtin.lenOf, Builtin.firstCells, hnc, storeCells]
    · obtain ⟨v', w', hr, h2, h3, _, h5⟩ := run_append_own_at (P := P) w base t ty E i z L.m bytes ht hi hzi hsz hby hz L.pos v xs.length _ hown ad 0 c [] (by simp) (fun j u hu => by simp at hu) (fun u hu => by simp at hu) (by simp only [maxLen]; simp only [List.length_nil] at hlen; omega) (by simpa using h47) hbase
      exact ⟨v', w', hr, fin _ _ (by simpa using h2), h3, h5⟩
  · obtain ⟨b, off, rfl, _, hc⟩ := hsl h0
    obtain ⟨v', w', hr, h2, h3, _, h5⟩ := run_append_own_at (P := P) w base t ty E i z L.m bytes ht hi hzi hsz hby hz L.pos v xs.length _ hown ⟨b, off, none⟩ ys.length c (ys.flatMap L.f) (L.flat_len ys) (fun j u hu => by
      rw [addr_add0]; exact hc j u hu) (L.flat_one ys) (by simp only [maxLen]; omega) h47 hbase
    exact ⟨v', w', hr, fin _ _ h2, h3, h5⟩

/-- append, for the walk. -/
theorem wpList_appG {P : Program} (w : World) {ops : Array Oper} {rest : List Oper} {o : Oper} {a : Act} {Q : Exit → Act → World → Prop} (L : Lay α) (xs ys : List α) (hgd : o.guard = none) (s x : Operand) (t : TypeId)
    (ho : o.op = .call { callee := .builtin .append, args := #[s, x], argTypes := #[t, t] })
    (base : Nat) (E : TypeId) (z : Value) (bytes : Nat) (ht : P.underlying t = some (.slice E)) (hinfo : (P.info? E).map (fun i => (i.zero, i.size, i.bytes)) = some (some z, L.m, bytes)) (hz : z.cells.size = L.m) (h8 : bytes ≤ 128)
    (v : Value) (c n : Nat) (A : Option Addr) (hs : a.eval s = v) (hx : a.eval x = .slice A n c) (hn : n = ys.length) (hown : OwnG L w base E v xs) (hsl : SlG L w A ys) (hlen : xs.length + ys.length < 68719476736) (hbase : base ≤ w.heap.size)
    (h : ∀ v' w', OwnG L w' base E v' (xs ++ ys) → Grew w w' v v' → wpList P ops Q rest (a.put o.dst v') w') : wpList P ops Q (o :: rest) a w := by
  subst hn
  refine wpList_plain hgd fun K hK => ?_
  obtain ⟨v', w', hr, h2, h3, h4⟩ := run_appG (P := P) (ty := o.type) (c := c) ht hinfo hz h8 hown hsl hlen hbase
  unfold Oper.wp execOp
  simp only [ho, resolve, invoke, builtin, Sem.run_bind, Sem.run_pure, Result.andThen_ok, List.map_toArray, List.map_cons, List.map_nil, hs, hx, hr]
  exact hK _ _ (h v' w' h2 (.of h3 h4))

end
theorem Grew.belowG {α : Type} {L : Lay α} {B base : Nat} {a w w' : World} {E : TypeId} {v v' : Value} {xs : List α} (h : Grew w w' v v') (hB : Below B a w) (hown : OwnG L w base E v xs) (h1 : B ≤ base) (h2 : B ≤ w.heap.size) : Below B a w' :=
  hB.grown h.by_ h2 fun _ hb => Nat.le_trans h1 (hown.lt hb).1
end Go.Proofs.YtalmgeefkcebdaaGreatDoor


/- The lexer: bytes, spans, keywords. -/
namespace Go.Proofs.YtalmgeefkcebdaaGreatDoor
open Go.RowKit

def isL (c : Int) : Bool := decide (97 ≤ c ∧ c ≤ 122)
def isD (c : Int) : Bool := decide (48 ≤ c ∧ c ≤ 57)
def isN (c : Int) : Bool := isL c || isD c || c == 95
theorem isLetter_any (c : Int) (w : World) : Calls Tryz.prog 171 #[.int .u8 c] w fun e w' => e = .returned (.bool (isL c)) ∧ Below w.heap.size w w' := by
  have hb := Below.refl w.heap.size w
  by_cases h1 : 97 ≤ c
  · by_cases h2 : c ≤ 122
    · have hr : isL c = true := decide_eq_true ⟨h1, h2⟩
      rw [hr]
      clear hr
      go_enter Tryz.func171, Tryz.ntmps171
      go_wp2
      go_ret
      exact ⟨rfl, hb⟩
    · have hr : isL c = false := decide_eq_false fun h => h2 h.2
      rw [hr]
      clear hr
      go_enter Tryz.func171, Tryz.ntmps171
      go_wp2
      go_ret
      exact ⟨rfl, hb⟩
  · have hr : isL c = false := decide_eq_false fun h => h1 h.1
    rw [hr]
    clear hr
    go_enter Tryz.func171, Tryz.ntmps171
    go_wp2
    go_ret
    exact ⟨rfl, hb⟩
theorem isDigit_any (c : Int) (w : World) : Calls Tryz.prog 176 #[.int .u8 c] w fun e w' => e = .returned (.bool (isD c)) ∧ Below w.heap.size w w' := by
  have hb := Below.refl w.heap.size w
  by_cases h1 : 48 ≤ c
  · by_cases h2 : c ≤ 57
    · have hr : isD c = true := decide_eq_true ⟨h1, h2⟩
      rw [hr]
      clear hr
      go_enter Tryz.func176, Tryz.ntmps176
      go_wp2
      go_ret
      exact ⟨rfl, hb⟩
    · have hr : isD c = false := decide_eq_false fun h => h2 h.2
      rw [hr]
      clear hr
      go_enter Tryz.func176, Tryz.ntmps176
      go_wp2
      go_ret
      exact ⟨rfl, hb⟩
  · have hr : isD c = false := decide_eq_false fun h => h1 h.1
    rw [hr]
    clear hr
    go_enter Tryz.func176, Tryz.ntmps176
    go_wp2
    go_ret
    exact ⟨rfl, hb⟩
theorem isNameByte_any (c : Int) (w : World) : Calls Tryz.prog 173 #[.int .u8 c] w fun e w' => e = .returned (.bool (isN c)) ∧ Below w.heap.size w w' := by
  have cL := fun W => isLetter_any c W
  have cD := fun W => isDigit_any c W
  unfold isN
  cases hl : isL c with
  | true =>
    rw [hl] at cL
    clear hl cD
    go_enter Tryz.func173, Tryz.ntmps173
    go_wp2_with fail
    refine (cL _).mono ?_
    rintro ew1 w1 ⟨rfl, hb1⟩
    go_wp2
    go_ret
    exact ⟨rfl, hb1⟩
  | false =>
    rw [hl] at cL
    clear hl
    cases hd : isD c with
    | true =>
      rw [hd] at cD
      clear hd
      go_enter Tryz.func173, Tryz.ntmps173
      go_wp2_with fail
      refine (cL _).mono ?_
      rintro ew1 w1 ⟨rfl, hb1⟩
      go_wp2_with fail
      refine (cD _).mono ?_
      rintro ew2 w2 ⟨rfl, hb2⟩
      go_wp2
      go_ret
      exact ⟨rfl, below2 hb1 hb2⟩
    | false =>
      rw [hd] at cD
      clear hd
      go_enter Tryz.func173, Tryz.ntmps173
      go_wp2_with fail
      refine (cL _).mono ?_
      rintro ew1 w1 ⟨rfl, hb1⟩
      go_wp2_with fail
      refine (cD _).mono ?_
      rintro ew2 w2 ⟨rfl, hb2⟩
      go_wp2
      go_ret
      exact ⟨by simp, below2 hb1 hb2⟩

/-- How many bytes of a list are bytes of a name, from the first on. -/
def spanN (l : List UInt8) : Nat := (l.takeWhile fun c => isN (c.toNat : Int)).length
theorem spanN_stop : ∀ (l : List UInt8) (k : Nat), (∀ j (h : j < l.length), j < k → isN (l[j].toNat : Int) = true) → (∀ h : k < l.length, isN (l[k].toNat : Int) = false) → k ≤ l.length → spanN l = k
  | [], 0, _, _, _ => rfl
  | [], k + 1, _, _, h => by simp at h
  | c :: l, 0, _, h, _ => by
    have := h (by simp)
    unfold spanN
    rw [List.takeWhile_cons, if_neg (by simpa using this)]
    rfl
  | c :: l, k + 1, h1, h2, h3 => by
    have h0 := h1 0 (by simp) (by omega)
    have := spanN_stop l k (fun j hj hk => by have := h1 (j + 1) (by simpa using hj) (by omega); simpa using this) (fun hk => by have := h2 (by simpa using hk); simpa using this) (by simpa using h3)
    unfold spanN at *
    rw [List.takeWhile_cons, if_pos (by simpa using h0), List.length_cons, this]
set_option maxHeartbeats 1600000 in
theorem span_any (s : ByteArray) (w : World) (hs : s.size ≤ 9223372036854775807) : Calls Tryz.prog 172 #[.string s, .func (.func 173) #[] #[]] w fun e w' => e = .returned (.int .i64 (spanN s.data.toList : Nat)) ∧ Below w.heap.size w w' := by
  have hst := hide (spanN_stop s.data.toList)
  have hsz : s.data.toList.length = s.size := rfl
  go_enter Tryz.func172, Tryz.ntmps172
  go_wp2_with fail
  go_loopw [5] (fun t5 wr => ∃ k : Nat, k ≤ s.size ∧ t5 = .int .i64 k ∧ Below w.heap.size w wr ∧ Hid (∀ j (h : j < s.data.toList.length), j < k → isN (s.data.toList[j].toNat : Int) = true)) (fun t5 _ => s.size - (intOf t5).toNat)
  case atStart => exact ⟨0, Nat.zero_le _, rfl, Below.refl _ _, hide fun j _ h => absurd h (by omega)⟩
  case round =>
    obtain ⟨k, hk, rfl, hB, hj⟩ := hrel
    by_cases hlt : k < s.size
    · have hc := isNameByte_any (s[k].toNat : Int)
      cases hn : isN (s[k].toNat : Int) with
      | true =>
        rw [hn] at hc
        have hnx : Hid (∀ j (h : j < s.data.toList.length), j < k + 1 → isN (s.data.toList[j].toNat : Int) = true) := hide fun j h h2 => by
          by_cases e : j = k
          · subst e; exact hn
          · exact hj.out j h (by omega)
        clear hn
        go_wp2_with fail
        refine (hc _).mono ?_
        rintro e w2 ⟨rfl, hb2⟩
        have hB2 := below2 hB hb2
        go_wp2
        go_roundw
        case rel => exact ⟨k + 1, by omega, by go_num, hB2, hnx⟩
        case measure => simp [intOf]; omega
      | false =>
        rw [hn] at hc
        have hfin : Hid (spanN s.data.toList = k) := hide (hst.out k hj.out (fun _ => hn) (by omega))
        clear hn
        go_wp2_with fail
        refine (hc _).mono ?_
        rintro e w2 ⟨rfl, hb2⟩
        have hB2 := below2 hB hb2
        go_wp2
        go_ret
        exact ⟨congrArg (fun x : Nat => Ending.returned (.int .i64 (x : Int))) hfin.out.symm, hB2⟩
    · obtain rfl : k = s.size := by omega
      have hfin : Hid (spanN s.data.toList = s.size) := hide (hst.out s.size hj.out (fun h => absurd h (by rw [hsz]; omega)) (by omega))
      go_wp2
      go_ret
      exact ⟨congrArg (fun x : Nat => Ending.returned (.int .i64 (x : Int))) hfin.out.symm, hB⟩

/-- The keywords. -/
def kwL : List ByteArray := [⟨#[97, 110, 100]⟩, ⟨#[97, 115, 115, 101, 114, 116]⟩, ⟨#[98, 111, 111, 108]⟩, ⟨#[102, 97, 108, 115, 101]⟩, ⟨#[102, 105, 101, 108, 100]⟩, ⟨#[102, 110]⟩, ⟨#[102, 111, 114]⟩, ⟨#[104, 97, 115, 104]⟩, ⟨#[105, 110]⟩, ⟨#[108, 101, 116]⟩, ⟨#[110, 111, 116]⟩, ⟨#[111, 114]⟩, ⟨#[112, 117, 98, 108, 105, 99]⟩, ⟨#[114, 101, 116, 117, 114, 110]⟩, ⟨#[115, 101, 99, 114, 101, 116]⟩, ⟨#[116, 114, 117, 101]⟩, ⟨#[117, 105, 110, 116]⟩]
theorem Keywords_any (w : World) : Calls Tryz.prog 175 #[] w fun e w' => ∃ b, e = .returned (.slice (some ⟨b, 0, none⟩) 17 17) ∧ Blk w' b (kwL.map Value.string).toArray 9 ∧ Below w.heap.size w w' := by
  go_enter Tryz.func175, Tryz.ntmps175
  go_wp2
  go_ret
  exact ⟨w.heap.size, rfl, Blk.newAt rfl, (Below.refl _ _).alloc (Nat.le_refl _) _⟩
/-- The place of a string in a list, or -1. -/
def idxS : List ByteArray → ByteArray → Int → Int
  | [], _, _ => -1
  | x :: xs, t, i => if t.toList == x.toList then i else idxS xs t (i + 1)
set_option maxHeartbeats 1600000 in
theorem IndexS_any (b n c : Nat) (ss : List ByteArray) (t : ByteArray) (w : World) (hn : ss.length = n) (hl : n ≤ 1000) (g : Blk w b (ss.map Value.string).toArray 9) : Calls Tryz.prog 207 #[.slice (some ⟨b, 0, none⟩) n c, .string t] w fun e w' => e = .returned (.int .i64 (idxS ss t 0)) ∧ Below w.heap.size w w' := by
  have hnI : (n : Int) ≤ 1000 := by omega
  have key : ∀ k, k ≤ n → (∀ j, j < k → (t.toList == (ss.getD j ByteArray.empty).toList) = false) → idxS ss t 0 = idxS (ss.drop k) t k := fun k => by
    induction k with
    | zero => intro _ _; rfl
    | succ k ih =>
      intro hk hj
      rw [ih (by omega) (fun j h => hj j (by omega)), List.drop_eq_getElem_cons (by omega : k < ss.length), idxS]
      have := hj k (by omega)
      rw [List.getD_eq_getElem?_getD, List.getElem?_eq_getElem (by omega : k < ss.length)] at this
      rw [if_neg (by rw [show (t.toList == ss[k].toList) = false from this]; decide)]
      rfl
  have cells : ∀ k, k < n → w.cell? ⟨b, k, none⟩ = some (.string (ss.getD k ByteArray.empty)) := fun k hk => g.cell (by simp [hn, hk, List.getD_eq_getElem?_getD])
  replace key := hide key
  replace hn := hide hn
  clear g
  go_enter Tryz.func207, Tryz.ntmps207
  go_wp2_with fail
  go_loopw [8] (fun t8 wr => ∃ k : Nat, k ≤ n ∧ t8 = .int .i64 k ∧ Below w.heap.size w wr ∧ Hid (∀ j, j < k → (t.toList == (ss.getD j ByteArray.empty).toList) = false)) (fun t8 _ => n - (intOf t8).toNat)
  case atStart => exact ⟨0, Nat.zero_le _, rfl, Below.refl _ _, hide fun j h => absurd h (by omega)⟩
  case round =>
    obtain ⟨k, hk, rfl, hB, hj⟩ := hrel
    by_cases hlt : k < n
    · have hltI : (k : Int) < n := by omega
      have hc := cell_below hB (cells k hlt)
      have hkey := hide (key.out k hk hj.out)
      have hdrop : Hid (ss.drop k = ss.getD k ByteArray.empty :: ss.drop (k + 1)) := hide (by
        rw [List.drop_eq_getElem_cons (by rw [hn.out]; exact hlt), List.getD_eq_getElem?_getD, List.getElem?_eq_getElem (by rw [hn.out]; exact hlt)]
        rfl)
      have hnx : Hid ((t.toList == (ss.getD k ByteArray.empty).toList) = false → ∀ j, j < k + 1 → (t.toList == (ss.getD j ByteArray.empty).toList) = false) := hide fun h j h2 => by
        by_cases e : j = k
        · subst e; exact h
        · exact hj.out j (by omega)
      generalize ss.getD k ByteArray.empty = x at *
      cases hq : (t.toList == x.toList) with
      | true =>
        have hfin : Hid (idxS ss t 0 = (k : Int)) := hide (by rw [hkey.out, hdrop.out, idxS, if_pos hq])
        go_wp2
        go_ret
        exact ⟨congrArg (fun x : Int => Ending.returned (.int .i64 x)) hfin.out.symm, hB⟩
      | false =>
        have hN2 := hide (hnx.out hq)
        go_wp2
        go_roundw
        case rel => exact ⟨k + 1, by omega, by go_num, hB, hN2⟩
        case measure => simp [intOf]; omega
    · obtain rfl : k = n := by omega
      have hfin : Hid (idxS ss t 0 = -1) := hide (by rw [key.out k (Nat.le_refl _) hj.out, List.drop_of_length_le (by rw [hn.out]; exact Nat.le_refl _)]; rfl)
      go_wp2
      go_ret
      exact ⟨congrArg (fun x : Int => Ending.returned (.int .i64 x)) hfin.out.symm, hB⟩
theorem ContainsS_any (b n c : Nat) (ss : List ByteArray) (t : ByteArray) (w : World) (hn : ss.length = n) (hl : n ≤ 1000) (g : Blk w b (ss.map Value.string).toArray 9) : Calls Tryz.prog 174 #[.slice (some ⟨b, 0, none⟩) n c, .string t] w fun e w' => e = .returned (.bool (decide (0 ≤ idxS ss t 0))) ∧ Below w.heap.size w w' := by
  have hc := fun W h => IndexS_any b n c ss t W hn hl h
  generalize idxS ss t 0 = z at *
  by_cases h : 0 ≤ z
  · rw [decide_eq_true h]
    go_enter Tryz.func174, Tryz.ntmps174
    go_wp2_with fail
    refine (hc _ g).mono ?_
    rintro ew1 w1 ⟨rfl, hb1⟩
    go_wp2
    go_ret
    exact ⟨by simp, hb1⟩
  · rw [decide_eq_false h]
    go_enter Tryz.func174, Tryz.ntmps174
    go_wp2_with fail
    refine (hc _ g).mono ?_
    rintro ew1 w1 ⟨rfl, hb1⟩
    go_wp2
    go_ret
    exact ⟨by simp [h], hb1⟩
end Go.Proofs.YtalmgeefkcebdaaGreatDoor


/- The shelf contracts of strings at this program: written by the shelf tool (numbers of this seat). -/
namespace Go.Proofs
open Go.Shelf
def Tryz.lays137_ren : Go.Shelf.Ren := ⟨fun | 137 => 179 | 217 => 211 | 266 => 235 | n => n, fun | 9 => 9 | 5 => 5 | 3 => 3 | n => n, fun | n => n⟩
theorem Tryz.lays137 : Go.Proofs.Lays.n137 Tryz.prog Tryz.lays137_ren := {
  mixed := by kernel_rfl
  f137 := Tryz.func179.trans (congrArg some (by kernel_rfl))
  f217 := Tryz.func211.trans (congrArg some (by kernel_rfl))
  f266 := Tryz.func235.trans (congrArg some (by kernel_rfl))
  t3 := Tryz.underlying3
  a3 := Tryz.isAgg3
  z3 := Tryz.sizeOf3
  v3 := Tryz.zeroValue3
  t5 := Tryz.underlying5
  a5 := Tryz.isAgg5
  z5 := Tryz.sizeOf5
  v5 := Tryz.zeroValue5
  t9 := Tryz.underlying9
  a9 := Tryz.isAgg9
  z9 := Tryz.sizeOf9
  v9 := Tryz.zeroValue9 }
open Go.RowKit in
/-- strings.IndexByte: "IndexByte returns the index of the first instance of c in s, or -1 if c is not present in s.": IT RETURNS 'Lib.indexByte s c'; the world is as it was. (LAID: no walk: one application.) -/
theorem Tryz.strings_IndexByte (s : ByteArray) (c : Int) (w : World) :
    Calls Tryz.prog 179 #[.string s, .int .u8 c] w fun e w' => e = .returned (.int .i64 (Lib.indexByte s.data.toList c.toNat.toUInt8)) ∧ w' = w := Any.strings_IndexByte Tryz.lays137 s c w
def Tryz.lays144_ren : Go.Shelf.Ren := ⟨fun | 144 => 178 | 143 => 210 | 219 => 234 | 217 => 211 | 225 => 246 | 224 => 247 | 267 => 248 | 266 => 235 | 314 => 250 | n => n, fun | 9 => 9 | 4 => 4 | 3 => 3 | 5 => 5 | 46 => 251 | 146 => 318 | 51 => 317 | n => n, fun | 1 => 5 | n => n⟩
theorem Tryz.lays144 : Go.Proofs.Lays.n144 Tryz.prog Tryz.lays144_ren := {
  mixed := by kernel_rfl
  f143 := Tryz.func210.trans (congrArg some (by kernel_rfl))
  f144 := Tryz.func178.trans (congrArg some (by kernel_rfl))
  f217 := Tryz.func211.trans (congrArg some (by kernel_rfl))
  f219 := Tryz.func234.trans (congrArg some (by kernel_rfl))
  f224 := Tryz.func247.trans (congrArg some (by kernel_rfl))
  f225 := Tryz.func246.trans (congrArg some (by kernel_rfl))
  f266 := Tryz.func235.trans (congrArg some (by kernel_rfl))
  f267 := Tryz.func248.trans (congrArg some (by kernel_rfl))
  f314 := Tryz.func250.trans (congrArg some (by kernel_rfl))
  t3 := Tryz.underlying3
  a3 := Tryz.isAgg3
  z3 := Tryz.sizeOf3
  v3 := Tryz.zeroValue3
  t4 := Tryz.underlying4
  a4 := Tryz.isAgg4
  z4 := Tryz.sizeOf4
  v4 := Tryz.zeroValue4
  t5 := Tryz.underlying5
  a5 := Tryz.isAgg5
  z5 := Tryz.sizeOf5
  v5 := Tryz.zeroValue5
  t9 := Tryz.underlying9
  a9 := Tryz.isAgg9
  z9 := Tryz.sizeOf9
  v9 := Tryz.zeroValue9
  t46 := Tryz.underlying251
  a46 := Tryz.isAgg251
  z46 := Tryz.sizeOf251
  v46 := Tryz.zeroValue251
  t51 := Tryz.underlying317
  a51 := Tryz.isAgg317
  z51 := Tryz.sizeOf317
  v51 := Tryz.zeroValue317
  t146 := Tryz.underlying318
  a146 := Tryz.isAgg318
  z146 := Tryz.sizeOf318
  v146 := Tryz.zeroValue318
  g1 := by kernel_rfl }
open Go.RowKit Go.Lib in
/-- strings.Contains: "Contains reports whether substr is within s.": IT RETURNS 'Lib.contains s substr'; the world is as it was. (LAID: no walk: one application.) -/
theorem Tryz.strings_Contains (s sub : ByteArray) (m : Int) (w : World) (hs : s.size < 4294967281) (hm : w.cell? ⟨5, 0, none⟩ = some (.int .i64 m)) :
    Calls Tryz.prog 178 #[.string s, .string sub] w fun e w' => e = .returned (.bool (Lib.contains s.data.toList sub.data.toList)) ∧ w' = w := Any.strings_Contains Tryz.lays144 s sub m w hs hm
end Go.Proofs

