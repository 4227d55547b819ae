/- The cipher, in plain Lean: what sealing and opening compute, and that they undo each other. -/
import Derived.Test.YtaklpdhhcnnclaaSpongeC
namespace Go.Proofs.Ytaklpdhhcnnclaa

def getk (s : T3) (k : Nat) : Int := if k = 0 then s.a else s.b
def setk (s : T3) (k : Nat) (c : Int) : T3 := if k = 0 then ⟨c, s.b, s.c⟩ else ⟨s.a, c, s.c⟩
/-- The other element of element x in the state s. -/
def cout (enc : Bool) (s : T3) (k : Nat) (x : Int) : Int := if enc then fadd big x (getk s k) else fsub big x (getk s k)
def ccip (enc : Bool) (s : T3) (k : Nat) (x : Int) : Int := if enc then cout true s k x else x
def cnext (n : Nat) (enc : Bool) (i : Nat) (s : T3) (x : Int) : T3 :=
  if i % 2 = 1 ∨ i + 1 = n then permute big (setk s (i % 2) (ccip enc s (i % 2) x)) else setk s (i % 2) (ccip enc s (i % 2) x)
/-- The state before element number i. -/
def cst (n : Nat) (enc : Bool) (l : List Int) (s0 : T3) : Nat → T3
  | 0 => s0
  | i + 1 => cnext n enc i (cst n enc l s0 i) (l.getD i 0)
def ce (n : Nat) (enc : Bool) (l : List Int) (s0 : T3) (i : Nat) : Int := cout enc (cst n enc l s0 i) (i % 2) (l.getD i 0)
def cl (n : Nat) (enc : Bool) (l : List Int) (s0 : T3) (i : Nat) : List Int := (List.range i).map (ce n enc l s0)
def cstart (key nonce : Int) (n : Nat) : T3 := permute big ⟨key, nonce, fadd big 786432 n⟩
def redB (l : List Int) : Bool := l.all fun x => decide (x < big)
def elB (key nonce : Int) (l : List Int) : Bool := decide (key < big) && decide (nonce < big) && redB l
def cOut (enc : Bool) (key nonce : Int) (l : List Int) : List Int := cl l.length enc l (cstart key nonce l.length) l.length
def cTag (enc : Bool) (key nonce : Int) (l : List Int) : Int := (cst l.length enc l (cstart key nonce l.length) l.length).a
def seal_ (key nonce : Int) (l : List Int) : List Int := if elB key nonce l then cOut true key nonce l ++ [cTag true key nonce l] else []
def tag_ (key nonce : Int) (l : List Int) : Int := if elB key nonce l then cTag false key nonce l else 0
def openOk (key nonce : Int) (l : List Int) : Bool := !l.isEmpty && elB key nonce l && decide (cTag false key nonce (l.take (l.length - 1)) = l.getD (l.length - 1) 0)
def open_ (key nonce : Int) (l : List Int) : List Int := if openOk key nonce l then cOut false key nonce (l.take (l.length - 1)) else []

theorem big_vld : vld big = true := by decide
theorem cstart_W3 (key nonce : Int) (n : Nat) (h0 : 0 ≤ key) (h1 : key < 18446744073709551616) (g0 : 0 ≤ nonce) (g1 : nonce < 18446744073709551616) : W3 (cstart key nonce n) :=
  permute_W3 _ _ ⟨⟨h0, h1⟩, ⟨g0, g1⟩, fadd_bd big 786432 n⟩
theorem cout_bd (enc : Bool) (s : T3) (k : Nat) (x : Int) : 0 ≤ cout enc s k x ∧ cout enc s k x < 18446744073709551616 := by
  unfold cout; split
  · exact fadd_bd _ _ _
  · exact fsub_bd _ _ _
theorem getk_bd {s : T3} (h : W3 s) (k : Nat) : 0 ≤ getk s k ∧ getk s k < 18446744073709551616 := by
  unfold getk; split
  · exact h.1
  · exact h.2.1
theorem setk_W3 {s : T3} (h : W3 s) (k : Nat) {c : Int} (hc : 0 ≤ c ∧ c < 18446744073709551616) : W3 (setk s k c) := by
  unfold setk; split
  · exact ⟨hc, h.2.1, h.2.2⟩
  · exact ⟨h.1, hc, h.2.2⟩
theorem ccip_bd (enc : Bool) (s : T3) (k : Nat) {x : Int} (hx : 0 ≤ x ∧ x < 18446744073709551616) : 0 ≤ ccip enc s k x ∧ ccip enc s k x < 18446744073709551616 := by
  unfold ccip; split
  · exact cout_bd _ _ _ _
  · exact hx
theorem cst_W3 (n : Nat) (enc : Bool) (l : List Int) (s0 : T3) (h : W3 s0) (hw : AllW l) : ∀ i, i ≤ l.length → W3 (cst n enc l s0 i)
  | 0, _ => h
  | i + 1, hi => by
    have ih := cst_W3 n enc l s0 h hw i (by omega)
    have hx := hw.get (show i < l.length by omega)
    have h1 := setk_W3 ih (i % 2) (ccip_bd enc (cst n enc l s0 i) (i % 2) hx)
    show W3 (cnext _ _ _ _ _)
    unfold cnext
    split
    · exact permute_W3 _ _ h1
    · exact h1
theorem cl_succ (n : Nat) (enc : Bool) (l : List Int) (s0 : T3) (i : Nat) : cl n enc l s0 (i + 1) = cl n enc l s0 i ++ [ce n enc l s0 i] := by simp [cl, List.range_succ]
theorem cl_len (n : Nat) (enc : Bool) (l : List Int) (s0 : T3) (i : Nat) : (cl n enc l s0 i).length = i := by simp [cl]
theorem cl_get (n : Nat) (enc : Bool) (l : List Int) (s0 : T3) {i j : Nat} (h : j < i) : (cl n enc l s0 i).getD j 0 = ce n enc l s0 j := by
  simp [cl, List.getD_eq_getElem?_getD, h]
theorem cOut_len (enc : Bool) (key nonce : Int) (l : List Int) : (cOut enc key nonce l).length = l.length := cl_len _ _ _ _ _
theorem cOut_W (enc : Bool) (key nonce : Int) (l : List Int) : AllW (cOut enc key nonce l) := fun x hx => by
  obtain ⟨t, _, rfl⟩ := List.mem_map.1 hx
  exact cout_bd _ _ _ _
theorem cTag_bd (enc : Bool) (key nonce : Int) (l : List Int) (h0 : 0 ≤ key) (h1 : key < 18446744073709551616) (g0 : 0 ≤ nonce) (g1 : nonce < 18446744073709551616) (hw : AllW l) : 0 ≤ cTag enc key nonce l ∧ cTag enc key nonce l < 18446744073709551616 :=
  (cst_W3 _ enc l _ (cstart_W3 key nonce _ h0 h1 g0 g1) hw _ (Nat.le_refl _)).1

theorem redB_iff (l : List Int) : redB l = true ↔ ∀ x ∈ l, x < big := by simp [redB]
theorem redB_get {l : List Int} (h : redB l = true) {i : Nat} (hi : i < l.length) : l.getD i 0 < big := by
  rw [List.getD_eq_getElem?_getD, List.getElem?_eq_getElem hi]
  exact (redB_iff l).1 h _ (List.getElem_mem hi)
theorem fadd_big (a b : Int) : fadd big a b = (a + b) % big := fadd_eq big_vld a b
theorem fsub_big (a b : Int) : fsub big a b = (a - b) % big := fsub_valid big_vld a b

/-- Sealing and opening undo each other, element by element: the states are the same. -/
theorem undo (n : Nat) (e : Bool) (l : List Int) (s0 : T3) (hw : AllW l) (hr : redB l = true) (hn : n = l.length) :
    ∀ i, i ≤ n → cst n (!e) (cl n e l s0 n) s0 i = cst n e l s0 i ∧ ∀ j, j < i → ce n (!e) (cl n e l s0 n) s0 j = l.getD j 0 := by
  intro i
  induction i with
  | zero => exact fun _ => ⟨rfl, fun j hj => absurd hj (Nat.not_lt_zero j)⟩
  | succ i ih =>
    intro hi
    obtain ⟨h1, h2⟩ := ih (by omega)
    have hx := hw.get (show i < l.length by omega)
    have hb := redB_get hr (show i < l.length by omega)
    have hg : (cl n e l s0 n).getD i 0 = cout e (cst n e l s0 i) (i % 2) (l.getD i 0) := cl_get n e l s0 (by omega)
    have key : cout (!e) (cst n e l s0 i) (i % 2) (cout e (cst n e l s0 i) (i % 2) (l.getD i 0)) = l.getD i 0 := by
      generalize l.getD i 0 = x at *
      generalize hs : getk (cst n e l s0 i) (i % 2) = s
      cases e with
      | true =>
        simp only [cout, Bool.not_true, Bool.false_eq_true, if_false, if_true, hs, fadd_big, fsub_big]
        rw [Int.emod_sub_emod, Int.add_sub_cancel]
        exact Int.emod_eq_of_lt hx.1 hb
      | false =>
        simp only [cout, Bool.not_false, Bool.false_eq_true, if_false, if_true, hs, fadd_big, fsub_big]
        rw [Int.emod_add_emod, Int.sub_add_cancel]
        exact Int.emod_eq_of_lt hx.1 hb
    have kc : ccip (!e) (cst n e l s0 i) (i % 2) (cout e (cst n e l s0 i) (i % 2) (l.getD i 0)) = ccip e (cst n e l s0 i) (i % 2) (l.getD i 0) := by
      cases e with
      | true => rfl
      | false => exact key
    refine ⟨?_, fun j hj => ?_⟩
    · show cnext _ _ _ _ _ = cnext _ _ _ _ _
      rw [h1, hg]
      unfold cnext
      rw [kc]
    · by_cases hj2 : j < i
      · exact h2 j hj2
      · obtain rfl : j = i := by omega
        show cout _ _ _ _ = _
        rw [h1, hg]
        exact key

theorem cl_red (n : Nat) (e : Bool) (l : List Int) (s0 : T3) (i : Nat) : redB (cl n e l s0 i) = true := by
  rw [redB_iff]
  intro x hx
  obtain ⟨t, _, rfl⟩ := List.mem_map.1 hx
  show cout _ _ _ _ < _
  unfold cout
  split
  · rw [fadd_big]; exact Int.emod_lt_of_pos _ (by decide)
  · rw [fsub_big]; exact Int.emod_lt_of_pos _ (by decide)

theorem cl_undo (e : Bool) (key nonce : Int) (l : List Int) (hw : AllW l) (hr : redB l = true) : cOut (!e) key nonce (cOut e key nonce l) = l ∧ cTag (!e) key nonce (cOut e key nonce l) = cTag e key nonce l := by
  have hl := cOut_len e key nonce l
  have h := undo l.length e l (cstart key nonce l.length) hw hr rfl l.length (Nat.le_refl _)
  refine ⟨?_, ?_⟩
  · unfold cOut at hl ⊢
    rw [hl]
    refine List.ext_getElem (by rw [cl_len]) fun i h1 h2 => ?_
    have h3 := h.2 i h2
    have h4 := cl_get l.length (!e) (cl l.length e l (cstart key nonce l.length) l.length) (cstart key nonce l.length) h2
    rw [List.getD_eq_getElem?_getD, List.getElem?_eq_getElem h1] at h4
    rw [List.getD_eq_getElem?_getD, List.getElem?_eq_getElem h2] at h3
    exact h4.trans h3
  · have e1 : cTag (!e) key nonce (cOut e key nonce l) = (cst l.length (!e) (cl l.length e l (cstart key nonce l.length) l.length) (cstart key nonce l.length) l.length).a := by
      unfold cTag cOut
      rw [cl_len]
    rw [e1, h.1]
    rfl

theorem elB_iff (key nonce : Int) (l : List Int) : elB key nonce l = true ↔ key < big ∧ nonce < big ∧ redB l = true := by
  simp [elB, and_assoc]
theorem perm_a_lt (s : T3) : (permute big s).a < big := (permute_lt big_vld s).1
/-- A tag is reduced. -/
theorem cTag_lt (enc : Bool) (key nonce : Int) (l : List Int) : cTag enc key nonce l < big := by
  unfold cTag
  cases h : l.length with
  | zero => exact perm_a_lt _
  | succ n =>
    show (cnext _ _ _ _ _).a < _
    unfold cnext
    rw [if_pos (.inr rfl)]
    exact perm_a_lt _

theorem take_snoc_one (l : List Int) (x : Int) : (l ++ [x]).take ((l ++ [x]).length - 1) = l ∧ (l ++ [x]).getD ((l ++ [x]).length - 1) 0 = x := by
  constructor
  · simp
  · simp [List.getD_eq_getElem?_getD]

/-- What opens: the elements and their tag. -/
theorem open_snoc (key nonce : Int) (l : List Int) (t : Int) : openOk key nonce (l ++ [t]) = (elB key nonce (l ++ [t]) && decide (cTag false key nonce l = t)) ∧ (openOk key nonce (l ++ [t]) = true → open_ key nonce (l ++ [t]) = cOut false key nonce l) := by
  obtain ⟨h1, h2⟩ := take_snoc_one l t
  refine ⟨?_, fun h => ?_⟩
  · have h0 : (l ++ [t]).isEmpty = false := by cases l <;> rfl
    unfold openOk
    rw [h1, h2, h0, Bool.not_false, Bool.true_and]
  · unfold open_
    rw [if_pos h, h1]

theorem redB_snoc (l : List Int) (t : Int) : redB (l ++ [t]) = (redB l && decide (t < big)) := by simp [redB]

theorem open_seal (key nonce : Int) (l : List Int) (hw : AllW l) (h : elB key nonce l = true) : openOk key nonce (seal_ key nonce l) = true ∧ open_ key nonce (seal_ key nonce l) = l := by
  obtain ⟨h1, h2, h3⟩ := (elB_iff _ _ _).1 h
  have hu := cl_undo true key nonce l hw h3
  have e : seal_ key nonce l = cOut true key nonce l ++ [cTag true key nonce l] := by unfold seal_; rw [if_pos h]
  have ok : openOk key nonce (seal_ key nonce l) = true := by
    rw [e, (open_snoc key nonce _ _).1]
    have h4 : elB key nonce (cOut true key nonce l ++ [cTag true key nonce l]) = true := by
      rw [elB_iff, redB_snoc]
      have := cl_red l.length true l (cstart key nonce l.length) l.length
      refine ⟨h1, h2, ?_⟩
      show (redB (cl _ _ _ _ _) && _) = true
      rw [this]
      simp [cTag_lt]
    rw [h4]
    simpa using hu.2
  refine ⟨ok, ?_⟩
  rw [e] at ok ⊢
  rw [(open_snoc key nonce _ _).2 ok]
  exact hu.1

/-- Each list with its tag is the encryption of what it opens to. -/
theorem seal_open (key nonce : Int) (l : List Int) (hw : AllW l) (h : elB key nonce l = true) : openOk key nonce (l ++ [cTag false key nonce l]) = true ∧ open_ key nonce (l ++ [cTag false key nonce l]) = cOut false key nonce l ∧ seal_ key nonce (cOut false key nonce l) = l ++ [cTag false key nonce l] := by
  obtain ⟨h1, h2, h3⟩ := (elB_iff _ _ _).1 h
  have hu := cl_undo false key nonce l hw h3
  have ok : openOk key nonce (l ++ [cTag false key nonce l]) = true := by
    rw [(open_snoc key nonce _ _).1]
    have h4 : elB key nonce (l ++ [cTag false key nonce l]) = true := by
      rw [elB_iff, redB_snoc, h3]
      exact ⟨h1, h2, by simp [cTag_lt]⟩
    rw [h4]
    simp
  refine ⟨ok, (open_snoc key nonce _ _).2 ok, ?_⟩
  have h5 : elB key nonce (cOut false key nonce l) = true := (elB_iff _ _ _).2 ⟨h1, h2, cl_red _ _ _ _ _⟩
  unfold seal_
  rw [if_pos h5]
  have hu2 := hu
  rw [Bool.not_false] at hu2
  rw [hu2.1, hu2.2]

theorem seal_inj (key nonce : Int) (a b : List Int) (ha : AllW a) (hb : AllW b) (ea : elB key nonce a = true) (eb : elB key nonce b = true) : seal_ key nonce a = seal_ key nonce b ↔ a = b :=
  ⟨fun h => by rw [← (open_seal key nonce a ha ea).2, h, (open_seal key nonce b hb eb).2], fun h => by rw [h]⟩

end Go.Proofs.Ytaklpdhhcnnclaa
