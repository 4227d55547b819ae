/- semantics: Holds, of a program with a public and a secret element. -/
import Derived.Test.YtalmgeefkcebdaaGreatDoorQ33
import Derived.Test.YtalmgeefkcebdaaGreatDoorQ34
namespace Go.Proofs.YtalmgeefkcebdaaGreatDoor
open Go.RowKit

/-- What Holds keeps, behind i declarations. -/
structure HoS (w wr : World) (mm q f : Nat) (p : Int) (N : List (ByteArray × Int)) : Prop where
  below : Below w.heap.size w wr
  run : RunP wr q p f
  nm : NsP wr mm N
  lo : w.heap.size ≤ mm
theorem HoS.mono {w wr w' : World} {mm q f : Nat} {p : Int} {N : List (ByteArray × Int)} (h : HoS w wr mm q f p N) (hb : Below wr.heap.size wr w') : HoS w w' mm q f p N :=
  ⟨below2 h.below hb, h.run.mono hb, h.nm.mono hb, h.lo⟩
set_option maxRecDepth 10000 in
set_option maxHeartbeats 32000000 in
theorem Holds_any (v : Value) (a c : ByteArray) (t : Tr) (o : PgOk [(true, a), (false, c)] t) (hac : (c == a) = false) (p : Int) (hv : vld p = true) (m n : Int) (hm : 0 ≤ m ∧ m < p) (hn : 0 ≤ n ∧ n < p) (ok : t.sok [(a, m), (c, n)]) (hr : sv p [(a, m), (c, n)] t ≠ 0)
    (w : World) (h : PgP w v [(true, a), (false, c)] t) (pu se : Nat) (gP : Blk w pu #[.int .u64 m] 23) (gS : Blk w se #[.int .u64 n] 23) :
    Calls Tryz.prog 12 #[v, .int .u64 p, .slice (some ⟨pu, 0, none⟩) 1 1, .slice (some ⟨se, 0, none⟩) 1 1] w fun e w' => e = .returned (.tuple #[.bool true, .int .i64 0]) ∧ Below w.heap.size w w' := by
  have cX := fun W (hb : Below w.heap.size w W) => sexamine_any v _ t o p hv W (h.mono hb)
  have cN := fun W (hb : Below w.heap.size w W) => Inputs17_any v _ t o W (h.mono hb)
  have cR := fun W (hb : Below w.heap.size w W) => newRun_any v _ t p W (h.mono hb)
  have hmm := @run_makeMap Tryz.prog
  obtain ⟨bd, cd, b, cb, ev, rfl, hD, hSt, hR⟩ := h.ex
  have hN : ∀ s k, getS [(a, m), (c, n)] s = some k → 0 ≤ k ∧ k < p := fun s k hk => by
    unfold getS at hk
    split at hk
    · cases hk; exact hm
    · unfold getS at hk
      split at hk
      · cases hk; exact hn
      · cases hk
  have cE := fun W q f mm (hb : Below w.heap.size w W) (hq : RunP W q p f) (hmN : NsP W mm [(a, m), (c, n)]) => sexec_any b cb ev hq (hSt.mono hb) hr (fun W2 hb2 => sval_any hv hN t ok W2 (fun _ => True) ev (hR.mono (below2 hb hb2)) (hq.mono hb2) (hmN.mono hb2))
  have c1 := fun W (hb : Below w.heap.size w W) => sbelow1_any W pu 0 1 m p ((gP.mono hb).cell rfl) hm.2
  have c2 := fun W (hb : Below w.heap.size w W) => sbelow1_any W se 0 1 n p ((gS.mono hb).cell rfl) hn.2
  rw [show ((pubN [(true, a), (false, c)] : Nat) : Int) = 1 from rfl, show ((secN [(true, a), (false, c)] : Nat) : Int) = 1 from rfl] at cN
  rw [show [(true, a), (false, c)].length = 2 from rfl] at cX cN cR
  have d0 := fun W (hb : Below w.heap.size w W) => hD.mono hb 0 (by show 0 < 2; omega)
  have d1 := fun W (hb : Below w.heap.size w W) => hD.mono hb 1 (by show 1 < 2; omega)
  rw [show [(true, a), (false, c)].getD 0 (false, ⟨#[]⟩) = (true, a) from rfl] at d0
  rw [show [(true, a), (false, c)].getD 1 (false, ⟨#[]⟩) = (false, c) from rfl] at d1
  have hna : getS [(a, m)] c = none := by
    show (match c == a with | true => some m | false => getS [] c) = none
    rw [hac]; rfl
  rw [show [(true, a), (false, c)].length = 2 from rfl]
  clear hR hSt hD h o ok hr hv hN hac
  go_enter Tryz.func12, Tryz.ntmps12
  go_wp2_with fail
  refine name_calls fun W hW => ?_
  have hB : Below w.heap.size w W := by rw [hW]; exact (Below.refl _ _).alloc (Nat.le_refl _) _
  have gA : Blk W w.heap.size #[.slice none 0 0, .slice (some ⟨bd, 0, none⟩) 2 cd, .slice (some ⟨b, 0, none⟩) 1 cb] 41 := by rw [hW]; exact Blk.newAt rfl
  clear hW
  refine (cX W hB).mono ?_
  rintro e w1 ⟨rfl, hb1⟩
  replace gA := gA.mono hb1
  have hB1 := below2 hB hb1
  have a0 := gA.cell (j := 0) (v := .slice none 0 0) rfl; have a1 := gA.cell (j := 1) (v := .slice (some ⟨bd, 0, none⟩) 2 cd) rfl; have a2 := gA.cell (j := 2) (v := .slice (some ⟨b, 0, none⟩) 1 cb) rfl
  clear hB hb1 cX
  go_wp2_with fail
  clear a0 a1 a2
  refine (cN w1 hB1).mono ?_
  rintro e w2 ⟨rfl, hb2⟩
  replace gA := gA.mono hb2
  have hB2 := below2 hB1 hb2
  clear hB1 hb2 cN
  go_wp2_with fail
  refine (c1 w2 hB2).mono ?_
  rintro e w3 ⟨rfl, hb3⟩
  replace gA := gA.mono hb3
  have hB3 := below2 hB2 hb3
  clear hB2 hb3 c1
  go_wp2_with fail
  refine (c2 w3 hB3).mono ?_
  rintro e w4 ⟨rfl, hb4⟩
  replace gA := gA.mono hb4
  have hB4 := below2 hB3 hb4
  have a0 := gA.cell (j := 0) (v := .slice none 0 0) rfl; have a1 := gA.cell (j := 1) (v := .slice (some ⟨bd, 0, none⟩) 2 cd) rfl; have a2 := gA.cell (j := 2) (v := .slice (some ⟨b, 0, none⟩) 1 cb) rfl
  clear hB3 hb4 c2
  go_wp2_with fail
  clear a0 a1 a2
  refine (cR w4 hB4).mono ?_
  rintro e w5 ⟨q, f, rfl, hq, hb5⟩
  replace gA := gA.mono hb5
  have hB5 := below2 hB4 hb5
  have a1 := (gA.alloc (.map #[] 0)).cell (j := 1) (v := .slice (some ⟨bd, 0, none⟩) 2 cd) rfl
  clear hB4 hb5 cR
  go_wp2_with fail
  clear a1 hmm
  refine name_world fun W6 hW6 => ?_
  have hb6 : Below w5.heap.size w5 W6 := by rw [hW6]; exact (Below.refl _ _).alloc (Nat.le_refl _) _
  have H0 : HoS w W6 w5.heap.size q f p [] := ⟨below2 hB5 hb6, hq.mono hb6, ⟨[], by rw [hW6]; exact Mp.made w5, trivial⟩, hB5.size⟩
  replace gA := gA.mono hb6
  have hlt5 := gA.lt
  clear hW6 hB5 hb6 hq
  go_loopw [59, 2, 3] (fun t59 t2 t3 wr => ∃ i : Nat, i ≤ 2 ∧ t59 = .int .i64 i ∧ (i = 0 → t2 = .slice (some ⟨pu, 0, none⟩) 1 1) ∧ (i < 2 → t3 = .slice (some ⟨se, 0, none⟩) 1 1) ∧ HoS w wr w5.heap.size q f p ([(a, m), (c, n)].take i) ∧ Blk wr w.heap.size #[.slice none 0 0, .slice (some ⟨bd, 0, none⟩) 2 cd, .slice (some ⟨b, 0, none⟩) 1 cb] 41) (fun t59 _ _ _ => 2 - (intOf t59).toNat)
  case atStart => exact ⟨0, by omega, rfl, fun _ => rfl, fun _ => rfl, H0, gA⟩
  case round =>
    clear H0 gA
    obtain ⟨i, hi, rfl, h2, h3, H, gA⟩ := hrel
    rcases (show i = 0 ∨ i = 1 ∨ i = 2 by omega) with rfl | rfl | rfl
    · obtain rfl := h2 rfl
      obtain rfl := h3 (by decide)
      clear h2 h3
      obtain ⟨e0, e1, e2, e3, e4⟩ := d0 _ H.below
      have hwl := H.below.size
      have hmx : max (0 : Int) 1 = 1 := by decide
      go_wp2_with fail
      refine name_world fun W hN => ?_
      have hbW : Below wr.heap.size wr W := by rw [hN]; exact ((Below.refl _ _).alloc (Nat.le_refl _) _).alloc (by simp) _
      have gD : Blk W wr.heap.size #[.bool true, .string a, .int .i64 1, .int .i64 0, .int .i64 0] 34 := by rw [hN]; exact (Blk.newAt rfl).alloc _
      have gV : Blk W (wr.heap.size + 1) #[.slice none 0 0, .bool false, .int .i64 0] 106 := by rw [hN]; exact Blk.newAt (by simp)
      replace H := H.mono hbW
      replace gA := gA.mono hbW
      clear hN hbW e0 e1 e2 e3 e4
      refine Rel.region_any Tryz.mixed fun w7 hb7 => ?_
      replace H := H.mono hb7
      replace gA := gA.mono hb7
      replace gD := gD.mono hb7
      replace gV := gV.mono hb7
      clear hb7
      have v0 := gV.cell (j := 0) (v := .slice none 0 0) rfl
      have vf := gV.free
      refine Rel.any_held (fun _ => True) 8 trivial fun hH0 => ?_
      refine Rel.tk (v := ?_) 0 ?_ ?_
      rotate_left
      · (intro W hSw; (try dsimp only at hSw); go_simp; try with_reducible rfl)
      try simp only [Act.put, List.setIfInBounds_toArray, List.set_cons_zero, List.set_cons_succ]
      refine Rel.tk (v := ?_) 1 ?_ ?_
      rotate_left
      · (intro W hSw; (try dsimp only at hSw); go_simp; try with_reducible rfl)
      try simp only [Act.put, List.setIfInBounds_toArray, List.set_cons_zero, List.set_cons_succ]
      refine Rel.tk (v := ?_) 2 ?_ ?_
      rotate_left
      · (intro W hSw; (try dsimp only at hSw); go_simp; try with_reducible rfl)
      try simp only [Act.put, List.setIfInBounds_toArray, List.set_cons_zero, List.set_cons_succ]
      refine Rel.tk (v := ?_) 3 ?_ ?_
      rotate_left
      · (intro W hSw; (try dsimp only at hSw); go_simp; try with_reducible rfl)
      try simp only [Act.put, List.setIfInBounds_toArray, List.set_cons_zero, List.set_cons_succ]
      refine Rel.tk (v := ?_) 4 ?_ ?_
      rotate_left
      · (intro W hSw; (try dsimp only at hSw); go_simp; try with_reducible rfl)
      try simp only [Act.put, List.setIfInBounds_toArray, List.set_cons_zero, List.set_cons_succ]
      refine Rel.tk (v := ?_) 5 ?_ ?_
      rotate_left
      · (intro W hSw; (try dsimp only at hSw); go_simp; try with_reducible rfl)
      try simp only [Act.put, List.setIfInBounds_toArray, List.set_cons_zero, List.set_cons_succ]
      refine Rel.tk (v := ?_) 6 ?_ ?_
      rotate_left
      · (intro W hSw; (try dsimp only at hSw); go_simp; try with_reducible rfl)
      try simp only [Act.put, List.setIfInBounds_toArray, List.set_cons_zero, List.set_cons_succ]
      refine Rel.heldNext 7 rfl (by kernel_rfl) fun K hK => ?_
      go_simp
      refine hK.out _ _ trivial (fun hH1 => ?_)
      clear hK K
      try simp only [Act.put, List.setIfInBounds_toArray, List.set_cons_zero, List.set_cons_succ]
      refine Rel.heldLast 8 rfl (by kernel_rfl) rfl (by kernel_rfl) fun K hK => ?_
      go_simp
      refine hK.out _ _ ?_
      clear hK K hH0 hH1
      have hne : wr.heap.size ≠ wr.heap.size + 1 := by omega
      have hBs := H.below.setCell (show w.heap.size ≤ (⟨wr.heap.size + 1, 0, none⟩ : Addr).block by show w.heap.size ≤ wr.heap.size + 1; omega) (.slice (some ⟨pu, 0, none⟩) 1 1)
      have H8 : HoS w (w7.setCell ⟨wr.heap.size + 1, 0, none⟩ (.slice (some ⟨pu, 0, none⟩) 1 1)) w5.heap.size q f p ([(a, m), (c, n)].take 0) :=
        ⟨hBs, Blk.other H.run (fun e => by subst e; exact absurd (blk_type H.run gV) (by decide)) _ _, H.nm.setT gV (by decide), H.lo⟩
      have gA8 := gA.other (b := w.heap.size) (c := wr.heap.size + 1) (by omega) 0 (.slice (some ⟨pu, 0, none⟩) 1 1)
      have gD8 := gD.other (b := wr.heap.size) (c := wr.heap.size + 1) (by omega) 0 (.slice (some ⟨pu, 0, none⟩) 1 1)
      have gV8 := gV.set 0 (.slice (some ⟨pu, 0, none⟩) 1 1)
      have iv8 : IsSv (w7.setCell ⟨wr.heap.size + 1, 0, none⟩ (.slice (some ⟨pu, 0, none⟩) 1 1)) ⟨pu, 0, 1⟩ m := ⟨_, gP.mono H8.below, rfl⟩
      have z0 := gV8.cell (j := 0) (v := .slice (some ⟨pu, 0, none⟩) 1 1) rfl; have z1 := gV8.cell (j := 1) (v := .bool false) rfl; have z2 := gV8.cell (j := 2) (v := .int .i64 0) rfl
      have y2 := gD8.cell (j := 2) (v := .int .i64 1) rfl; have y3 := gD8.cell (j := 3) (v := .int .i64 0) rfl; have y4 := gD8.cell (j := 4) (v := .int .i64 0) rfl
      have c3 : Calls Tryz.prog 38 #[.agg #[.slice (some ⟨pu, 0, none⟩) 1 1, .bool false, .int .i64 0], .agg #[.int .i64 1, .int .i64 0, .int .i64 0]] (w7.setCell ⟨wr.heap.size + 1, 0, none⟩ (.slice (some ⟨pu, 0, none⟩) 1 1)) _ := sinRange1_any _ ⟨pu, 0, 1⟩ m iv8
      clear H gA gD gV hBs v0 vf
      go_wp2_with fail
      refine c3.mono ?_
      rintro e w9 ⟨rfl, hb9⟩
      have H9 := H8.mono hb9
      have gA9 := gA8.mono hb9
      have gD9 := gD8.mono hb9
      have gV9 := gV8.mono hb9
      have iv9 := iv8.mono hb9
      clear c3 z0 z1 z2 y2 y3 y4 H8 gA8 gD8 gV8 iv8 hb9
      have z0 := gV9.cell (j := 0) (v := .slice (some ⟨pu, 0, none⟩) 1 1) rfl; have z1 := gV9.cell (j := 1) (v := .bool false) rfl; have z2 := gV9.cell (j := 2) (v := .int .i64 0) rfl
      have y1 := gD9.cell (j := 1) (v := .string a) rfl
      obtain ⟨L, hM, hRr⟩ := H9.nm
      have hg0 := hRr.get.1 (show getS [] a = none from rfl)
      go_wp2_with (refine wpList_put Tryz.underlying104 Tryz.underlying9 rfl _ _ _ rfl (.agg #[.slice (some ⟨pu, 0, none⟩) 1 1, .bool false, .int .i64 0]) rfl rfl rfl hM hg0 ?_; intro w10 hm10 hp10; refine Hold.mk ?_)
      have H10 : HoS w w10 w5.heap.size q f p ([(a, m), (c, n)].take (0 + 1)) :=
        ⟨hp10.below H9.below H9.lo, hp10.blk H9.run, ⟨_, hm10, NsR.snoc (iv9.put hp10) (hRr.imp fun _ _ h => h.put hp10)⟩, H9.lo⟩
      have gA10 := hp10.blk gA9
      clear H9 gA9 gD9 gV9 iv9 hM hRr hp10 hm10 z0 z1 z2 y1 hg0
      refine Hold.go ?_
      go_wp2
      go_roundw
      case rel => exact ⟨0 + 1, by omega, rfl, fun h => absurd h (by decide), fun _ => rfl, H10, gA10⟩
      case measure => simp [intOf]
    · obtain rfl := h3 (by decide)
      clear h2 h3
      obtain ⟨e0, e1, e2, e3, e4⟩ := d1 _ H.below
      have hwl := H.below.size
      have hmx : max (0 : Int) 1 = 1 := by decide
      go_wp2_with fail
      refine name_world fun W hN => ?_
      have hbW : Below wr.heap.size wr W := by rw [hN]; exact ((Below.refl _ _).alloc (Nat.le_refl _) _).alloc (by simp) _
      have gD : Blk W wr.heap.size #[.bool false, .string c, .int .i64 1, .int .i64 0, .int .i64 0] 34 := by rw [hN]; exact (Blk.newAt rfl).alloc _
      have gV : Blk W (wr.heap.size + 1) #[.slice none 0 0, .bool false, .int .i64 0] 106 := by rw [hN]; exact Blk.newAt (by simp)
      replace H := H.mono hbW
      replace gA := gA.mono hbW
      clear hN hbW e0 e1 e2 e3 e4
      refine Rel.region_any Tryz.mixed fun w7 hb7 => ?_
      replace H := H.mono hb7
      replace gA := gA.mono hb7
      replace gD := gD.mono hb7
      replace gV := gV.mono hb7
      clear hb7
      have v0 := gV.cell (j := 0) (v := .slice none 0 0) rfl
      have vf := gV.free
      refine Rel.any_held (fun _ => True) 8 trivial fun hH0 => ?_
      refine Rel.tk (v := ?_) 0 ?_ ?_
      rotate_left
      · (intro W hSw; (try dsimp only at hSw); go_simp; try with_reducible rfl)
      try simp only [Act.put, List.setIfInBounds_toArray, List.set_cons_zero, List.set_cons_succ]
      refine Rel.tk (v := ?_) 1 ?_ ?_
      rotate_left
      · (intro W hSw; (try dsimp only at hSw); go_simp; try with_reducible rfl)
      try simp only [Act.put, List.setIfInBounds_toArray, List.set_cons_zero, List.set_cons_succ]
      refine Rel.tk (v := ?_) 2 ?_ ?_
      rotate_left
      · (intro W hSw; (try dsimp only at hSw); go_simp; try with_reducible rfl)
      try simp only [Act.put, List.setIfInBounds_toArray, List.set_cons_zero, List.set_cons_succ]
      refine Rel.tk (v := ?_) 3 ?_ ?_
      rotate_left
      · (intro W hSw; (try dsimp only at hSw); go_simp; try with_reducible rfl)
      try simp only [Act.put, List.setIfInBounds_toArray, List.set_cons_zero, List.set_cons_succ]
      refine Rel.tk (v := ?_) 4 ?_ ?_
      rotate_left
      · (intro W hSw; (try dsimp only at hSw); go_simp; try with_reducible rfl)
      try simp only [Act.put, List.setIfInBounds_toArray, List.set_cons_zero, List.set_cons_succ]
      refine Rel.tk (v := ?_) 5 ?_ ?_
      rotate_left
      · (intro W hSw; (try dsimp only at hSw); go_simp; try with_reducible rfl)
      try simp only [Act.put, List.setIfInBounds_toArray, List.set_cons_zero, List.set_cons_succ]
      refine Rel.tk (v := ?_) 6 ?_ ?_
      rotate_left
      · (intro W hSw; (try dsimp only at hSw); go_simp; try with_reducible rfl)
      try simp only [Act.put, List.setIfInBounds_toArray, List.set_cons_zero, List.set_cons_succ]
      refine Rel.heldNext 7 rfl (by kernel_rfl) fun K hK => ?_
      go_simp
      refine hK.out _ _ trivial (fun hH1 => ?_)
      clear hK K
      try simp only [Act.put, List.setIfInBounds_toArray, List.set_cons_zero, List.set_cons_succ]
      refine Rel.heldLast 8 rfl (by kernel_rfl) rfl (by kernel_rfl) fun K hK => ?_
      go_simp
      refine hK.out _ _ ?_
      clear hK K hH0 hH1
      have hne : wr.heap.size ≠ wr.heap.size + 1 := by omega
      have hBs := H.below.setCell (show w.heap.size ≤ (⟨wr.heap.size + 1, 0, none⟩ : Addr).block by show w.heap.size ≤ wr.heap.size + 1; omega) (.slice (some ⟨se, 0, none⟩) 1 1)
      have H8 : HoS w (w7.setCell ⟨wr.heap.size + 1, 0, none⟩ (.slice (some ⟨se, 0, none⟩) 1 1)) w5.heap.size q f p ([(a, m), (c, n)].take 1) :=
        ⟨hBs, Blk.other H.run (fun e => by subst e; exact absurd (blk_type H.run gV) (by decide)) _ _, H.nm.setT gV (by decide), H.lo⟩
      have gA8 := gA.other (b := w.heap.size) (c := wr.heap.size + 1) (by omega) 0 (.slice (some ⟨se, 0, none⟩) 1 1)
      have gD8 := gD.other (b := wr.heap.size) (c := wr.heap.size + 1) (by omega) 0 (.slice (some ⟨se, 0, none⟩) 1 1)
      have gV8 := gV.set 0 (.slice (some ⟨se, 0, none⟩) 1 1)
      have iv8 : IsSv (w7.setCell ⟨wr.heap.size + 1, 0, none⟩ (.slice (some ⟨se, 0, none⟩) 1 1)) ⟨se, 0, 1⟩ n := ⟨_, gS.mono H8.below, rfl⟩
      have z0 := gV8.cell (j := 0) (v := .slice (some ⟨se, 0, none⟩) 1 1) rfl; have z1 := gV8.cell (j := 1) (v := .bool false) rfl; have z2 := gV8.cell (j := 2) (v := .int .i64 0) rfl
      have y2 := gD8.cell (j := 2) (v := .int .i64 1) rfl; have y3 := gD8.cell (j := 3) (v := .int .i64 0) rfl; have y4 := gD8.cell (j := 4) (v := .int .i64 0) rfl
      have c3 : Calls Tryz.prog 38 #[.agg #[.slice (some ⟨se, 0, none⟩) 1 1, .bool false, .int .i64 0], .agg #[.int .i64 1, .int .i64 0, .int .i64 0]] (w7.setCell ⟨wr.heap.size + 1, 0, none⟩ (.slice (some ⟨se, 0, none⟩) 1 1)) _ := sinRange1_any _ ⟨se, 0, 1⟩ n iv8
      clear H gA gD gV hBs v0 vf
      go_wp2_with fail
      refine c3.mono ?_
      rintro e w9 ⟨rfl, hb9⟩
      have H9 := H8.mono hb9
      have gA9 := gA8.mono hb9
      have gD9 := gD8.mono hb9
      have gV9 := gV8.mono hb9
      have iv9 := iv8.mono hb9
      clear c3 z0 z1 z2 y2 y3 y4 H8 gA8 gD8 gV8 iv8 hb9
      have z0 := gV9.cell (j := 0) (v := .slice (some ⟨se, 0, none⟩) 1 1) rfl; have z1 := gV9.cell (j := 1) (v := .bool false) rfl; have z2 := gV9.cell (j := 2) (v := .int .i64 0) rfl
      have y1 := gD9.cell (j := 1) (v := .string c) rfl
      obtain ⟨L, hM, hRr⟩ := H9.nm
      have hg0 := hRr.get.1 hna
      go_wp2_with (refine wpList_put Tryz.underlying104 Tryz.underlying9 rfl _ _ _ rfl (.agg #[.slice (some ⟨se, 0, none⟩) 1 1, .bool false, .int .i64 0]) rfl rfl rfl hM hg0 ?_; intro w10 hm10 hp10; refine Hold.mk ?_)
      have H10 : HoS w w10 w5.heap.size q f p ([(a, m), (c, n)].take (1 + 1)) :=
        ⟨hp10.below H9.below H9.lo, hp10.blk H9.run, ⟨_, hm10, NsR.snoc (iv9.put hp10) (hRr.imp fun _ _ h => h.put hp10)⟩, H9.lo⟩
      have gA10 := hp10.blk gA9
      clear H9 gA9 gD9 gV9 iv9 hM hRr hp10 hm10 z0 z1 z2 y1 hg0
      refine Hold.go ?_
      go_wp2
      go_roundw
      case rel => exact ⟨1 + 1, by omega, rfl, fun h => absurd h (by decide), fun h => absurd h (by decide), H10, gA10⟩
      case measure => simp [intOf]
    · have a2 := gA.cell (j := 2) (v := .slice (some ⟨b, 0, none⟩) 1 cb) rfl
      clear h2 h3
      go_wp2_with fail
      refine (cE wr q f w5.heap.size H.below H.run H.nm).mono ?_
      rintro e w9 ⟨rfl, hb9⟩
      have hB9 := below2 H.below hb9
      clear H gA a2 cE
      go_wp2
      exact bodyPost_ret (v := .tuple #[.bool true, .int .i64 0]) (by simp [results, Tryz.results12, go_sem]) rfl ⟨rfl, hB9⟩

theorem runE_of {p pub vars sec : Int} {R : List Rw} {H : List Hn} {u s : List Int} (h : runOk p pub vars R sec H u s = true) : runE p pub vars R sec H u s = 0 ∧ satL p pub vars R sec H u s = (if satOk p pub vars R (runL p pub vars R sec H u s) = true then runL p pub vars R sec H u s else []) ∧ satE p pub vars R sec H u s = if satOk p pub vars R (runL p pub vars R sec H u s) = true then 0 else 9 := by
  unfold runE satL satE
  rw [h]
  exact ⟨rfl, rfl, rfl⟩
theorem runE_no {p pub vars sec : Int} {R : List Rw} {H : List Hn} {u s : List Int} (h : runOk p pub vars R sec H u s = false) : runE p pub vars R sec H u s = 1 ∧ runL p pub vars R sec H u s = [] ∧ satL p pub vars R sec H u s = [] ∧ satE p pub vars R sec H u s = 1 := by
  unfold runE satL satE runL
  rw [h]
  exact ⟨rfl, rfl, rfl, rfl⟩
theorem runL_W {p pub vars sec : Int} {R : List Rw} {H : List Hn} {u s : List Int} (hu : AllW u) (hs : AllW s) : AllW (runL p pub vars R sec H u s) := by
  unfold runL
  split
  · refine runH_mem (fun W h => hval_bd p W h) (fun x hx => ?_) H
    rcases List.mem_cons.1 hx with h1 | h1
    · rw [h1]; decide
    · rcases List.mem_append.1 h1 with h2 | h2
      · exact hu x h2
      · exact hs x h2
  · intro x hx; cases hx

set_option maxRecDepth 10000 in
set_option maxHeartbeats 4000000 in
theorem aSat_any (p pub vars : Int) (ra : Option Addr) (R : List Rw) (rc : Nat) (sec : Int) (ha : Option Addr) (H : List Hn) (hc : Nat) (ua : Option Addr) (uc : Nat) (u : List Int) (sa : Option Addr) (sc : Nat) (s : List Int) (w : World)
    (hR : RowsP w ra rc R) (hH : HintsP w ha hc H) (hsec : (Lit.int .i64 sec).wf = true) (hu : Sl w .u64 ua u) (hs : Sl w .u64 sa s) (hAu : AllW u) (hAs : AllW s) :
    Calls Tryz.prog 9 #[.agg #[.int .u64 p, .int .i64 pub, .int .i64 vars, .slice ra R.length rc, .int .i64 sec, .slice ha H.length hc], .slice ua u.length uc, .slice sa s.length sc] w (RetR w (satL p pub vars R sec H u s) (satE p pub vars R sec H u s)) := by
  have cR := fun W h1 h2 h3 h4 => aRun_any p pub vars ra R rc sec ha H hc ua uc u sa sc s W h1 h2 hsec h3 h4 hAu hAs
  have hWl := runL_W (p := p) (pub := pub) (vars := vars) (R := R) (sec := sec) (H := H) hAu hAs
  have cS := fun (wa : Option Addr) (wc : Nat) W h1 h2 => tSat_any p pub vars ra R rc wa wc (runL p pub vars R sec H u s) W h1 h2 hWl
  obtain ⟨K, hK⟩ : ∃ K, K = runOk p pub vars R sec H u s := ⟨_, rfl⟩
  cases K with
  | false =>
    obtain ⟨e1, e2, e3, e4⟩ := runE_no hK.symm
    rw [e1, e2] at cR
    rw [e3, e4]
    clear cS hWl e1 e2 e3 e4 hK hsec hAu hAs
    go_enter Tryz.func9, Tryz.ntmps9
    go_wp2_with fail
    refine name_calls fun W hN => ?_
    have g0 : Blk W w.heap.size #[.int .u64 p, .int .i64 pub, .int .i64 vars, .slice ra R.length rc, .int .i64 sec, .slice ha H.length hc] 47 := by rw [hN]; exact Blk.newAt rfl
    have hB : Below w.heap.size w W := by rw [hN]; exact (Below.refl _ _).alloc (Nat.le_refl _) _
    clear hN
    have hz := hB.size
    refine (cR W (hR.mono hB) (hH.mono hB) (hu.mono hB) (hs.mono hB)).mono ?_
    rintro e w1 ⟨v1, rfl, own1, hb1⟩
    replace hB := below2 hB hb1
    replace own1 := own1.low hz
    clear hb1 cR
    rcases own1.form with ⟨rfl, _⟩ | ⟨g, cap, cur, rfl, _⟩
    · go_wp2
      exact bodyPost_ret (v := .tuple #[.slice none 0 0, .int .i64 1]) (by simp [results, Tryz.results9, go_sem]) rfl ⟨_, rfl, Own.nil _ _ _ _, hB⟩
    · go_wp2
      exact bodyPost_ret (v := .tuple #[.slice none 0 0, .int .i64 1]) (by simp [results, Tryz.results9, go_sem]) rfl ⟨_, rfl, Own.nil _ _ _ _, hB⟩
  | true =>
    obtain ⟨e1, e3, e4⟩ := runE_of hK.symm
    rw [e1] at cR
    rw [e3, e4]
    clear e1 e3 e4 hK hsec hAu hAs
    generalize runL p pub vars R sec H u s = L at *
    obtain ⟨B, hBe⟩ : ∃ B, B = satOk p pub vars R L := ⟨_, rfl⟩
    rw [← hBe] at cS ⊢
    replace hBe := hide hBe
    obtain ⟨RL, hRL⟩ : ∃ RL, RL = if B = true then L else [] := ⟨_, rfl⟩
    obtain ⟨RE, hRE⟩ : ∃ RE : Int, RE = if B = true then 0 else 9 := ⟨_, rfl⟩
    rw [← hRL, ← hRE]
    replace hRL := hide hRL
    replace hRE := hide hRE
    go_enter Tryz.func9, Tryz.ntmps9
    go_wp2_with fail
    refine name_calls fun W hN => ?_
    have g0 : Blk W w.heap.size #[.int .u64 p, .int .i64 pub, .int .i64 vars, .slice ra R.length rc, .int .i64 sec, .slice ha H.length hc] 47 := by rw [hN]; exact Blk.newAt rfl
    have hB : Below w.heap.size w W := by rw [hN]; exact (Below.refl _ _).alloc (Nat.le_refl _) _
    clear hN
    have hz := hB.size
    refine (cR W (hR.mono hB) (hH.mono hB) (hu.mono hB) (hs.mono hB)).mono ?_
    rintro e w1 ⟨v1, rfl, own1, hb1⟩
    replace hB := below2 hB hb1
    replace g0 := g0.mono hb1
    replace own1 := own1.low hz
    clear hb1 cR hu hs hz
    obtain ⟨a1, c1, e1, sl1, _, _⟩ := Own.sl own1
    subst e1
    have k0 := g0.cell (j := 0) (v := .int .u64 p) rfl; have k1 := g0.cell (j := 1) (v := .int .i64 pub) rfl; have k2 := g0.cell (j := 2) (v := .int .i64 vars) rfl; have k3 := g0.cell (j := 3) (v := .slice ra R.length rc) rfl; have k4 := g0.cell (j := 4) (v := .int .i64 sec) rfl; have k5 := g0.cell (j := 5) (v := .slice ha H.length hc) rfl
    go_wp2_with fail
    refine (cS a1 c1 w1 (hR.mono hB) sl1).mono ?_
    rintro e w2 ⟨rfl, hb2⟩
    replace hB := below2 hB hb2
    replace own1 := own1.mono hb2
    clear hb2 cS k0 k1 k2 k3 k4 k5 sl1
    cases B with
    | false =>
      have e1 := hide (show RL = [] from hRL.out)
      have e2 := hide (show RE = 9 from hRE.out)
      clear hRL hRE
      go_wp2
      exact bodyPost_ret (v := .tuple #[.slice none 0 0, .int .i64 9]) (by simp [results, Tryz.results9, go_sem]) rfl ⟨_, by rw [e2.out], by rw [e1.out]; exact Own.nil _ _ _ _, hB⟩
    | true =>
      have e1 := hide (show RL = L from hRL.out)
      have e2 := hide (show RE = 0 from hRE.out)
      clear hRL hRE
      go_wp2
      exact bodyPost_ret (v := .tuple #[.slice a1 L.length c1, .int .i64 0]) (by simp [results, Tryz.results9, go_sem]) rfl ⟨_, by rw [e2.out], by rw [e1.out]; exact own1, hB⟩


theorem getN_mem {s : ByteArray} {l : Lin} : ∀ {N : List (ByteArray × Lin)}, getN N s = some l → ∃ x ∈ N, x.2 = l
  | [], h => by cases h
  | p :: r, h => by
    cases hb : (s == p.1) with
    | true =>
      have e2 : getN (p :: r) s = some p.2 := by unfold getN; rw [hb]
      rw [e2] at h
      exact ⟨p, List.mem_cons_self .., Option.some.inj h⟩
    | false =>
      have e2 : getN (p :: r) s = getN r s := by
        show (match s == p.1 with | true => some p.2 | false => getN r s) = getN r s
        rw [hb]
      rw [e2] at h
      obtain ⟨x, h1, h2⟩ := getN_mem h
      exact ⟨x, List.mem_cons_of_mem _ h1, h2⟩
theorem keep_one {p : Int} (hv : vld p = true) : keepT (0, fred p 1) = [(0, 1)] := by
  have hp : 1 < p := by rcases vld_cases hv with h | h | h | h | h | h | h <;> omega
  rw [fred_valid hv, Int.emod_eq_of_lt (by omega) hp]
  rfl
/-- The value of a name. -/
def nmV (p : Int) (ds : List (Bool × ByteArray)) (I : List Int) (s : ByteArray) : Int := V (newS p (pubN ds) (secN ds)) I ((getN (inNs (pubN ds) ds ds.length) s).getD [])
theorem cS_ext {p : Int} {ds : List (Bool × ByteArray)} {t : Tr} {I : List Int} (hv : vld p = true) (hg : t.gok (inNs (pubN ds) ds ds.length)) (hI : ∀ x ∈ I, 0 ≤ x ∧ x < p) (hl : (I.length : Int) = pubN ds + secN ds)
    (hN : ∀ x ∈ inNs (pubN ds) ds ds.length, ∃ i : Nat, i < I.length ∧ x.2 = [(1 + (i : Int), 1)]) :
    Wf (cS p ds t) I ∧ (Sat (cS p ds t) I ↔ tv p (nmV p ds I) t = 1) ∧ (cS p ds t).p = p ∧ (cS p ds t).pub = pubN ds ∧ (cS p ds t).sec = secN ds := by
  obtain ⟨wf0, s0⟩ := new_wf (p := p) (pub := pubN ds) (sec := secN ds) (I := I) hv hI ⟨by omega, by omega, hl⟩
  obtain ⟨e, s, v, l⟩ := gTr_ext (N := inNs (pubN ds) ds ds.length) (I := I) (nmV p ds I) t _ hg wf0 (fun s L h => by
    obtain ⟨x, hx, rfl⟩ := getN_mem h
    obtain ⟨i, hi, e⟩ := hN x hx
    have h1 := (new_in (p := p) (pub := pubN ds) (sec := secN ds) (I := I) hv hI ⟨by omega, by omega, hl⟩ hi).1
    refine ⟨by rw [e]; exact h1, ?_⟩
    unfold nmV
    rw [h]; rfl)
  have hp : (gTr (inNs (pubN ds) ds ds.length) t (newS p (pubN ds) (secN ds))).1.p = p := e.p
  obtain ⟨e2, s2⟩ := assert_ext e.wf (x := (gTr (inNs (pubN ds) ds ds.length) t (newS p (pubN ds) (secN ds))).2) (y := [(0, 1)]) (by rw [hp]; exact l) (one_lin e.wf)
  have e3 := e.trans e2
  unfold cS
  rw [keep_one hv]
  refine ⟨e2.wf, ?_, e3.p, e3.pub, e3.sec⟩
  rw [s2, s, v, V_one e.wf.v]
  exact ⟨fun h => h.2, fun h => ⟨s0, h⟩⟩
theorem cS_bd {p : Int} {ds : List (Bool × ByteArray)} (t : Tr) (hlen : ds.length ≤ 100) : Bd (cS p ds t) (202 + cTr t) := by
  have hpl : pubN ds ≤ 100 := Nat.le_trans (List.length_filter_le _ _) hlen
  have hsl : secN ds ≤ 100 := Nat.le_trans (List.length_filter_le _ _) hlen
  have hB0 : Bd (newS p (pubN ds) (secN ds)) 201 := ⟨⟨by show 0 ≤ 1 + (pubN ds : Int) + secN ds; omega, by show 1 + (pubN ds : Int) + secN ds ≤ 201; omega⟩, by show ((0 : Nat) : Int) ≤ 201; omega, by show ((0 : Nat) : Int) ≤ 201; omega⟩
  have hBT := gTr_bd (N := inNs (pubN ds) ds ds.length) t _ 201 hB0
  unfold cS
  exact Bd.up hBT.row (by omega)
/-- What Satisfy answers of a circuit that can be completed. -/
theorem sat_if {S : St} {u s : List Int} {R : List Rw} {H : List Hn} (wf : Wf S (u ++ s)) (hpub : (u.length : Int) = S.pub) (hv : S.vars ≤ 65536) (hr : S.R.length ≤ 16384) (eR : R.map Rw.val = S.R) (eH : H.map Hn.val = S.H) :
    cirOk S.p S.pub S.vars R S.sec H = true ∧ (Sat S (u ++ s) → satE S.p S.pub S.vars R S.sec H u s = 0) ∧ (¬ Sat S (u ++ s) → satE S.p S.pub S.vars R S.sec H u s = 9) := by
  have hC := cir_of wf hv hr eR eH
  obtain ⟨q1, q2, q3⟩ := wf.ps
  have hb := wf.i
  have hI : inpOk S.p S.pub S.sec u s = true := decide_eq_true ⟨hpub, by rw [List.length_append] at q3; omega, fun i hi => (hb _ (List.mem_append_left _ (getD_mem' hi 0))).2, fun i hi => (hb _ (List.mem_append_right _ (getD_mem' hi 0))).2⟩
  have hk : runOk S.p S.pub S.vars R S.sec H u s = true := by unfold runOk; rw [hC, hI]; rfl
  have hf : runH S.p (1 :: (u ++ s)) H = fin S (u ++ s) := by rw [runH_val, eH]; rfl
  have hL : runL S.p S.pub S.vars R S.sec H u s = fin S (u ++ s) := by unfold runL; rw [if_pos hk, hf]
  have hlen := wf.fin_len
  have hT : tblOk S.p S.pub S.vars R = true := (cir_bd hC).1
  have hall : ∀ (H : List Hint4) (W : List Int), (∀ x ∈ W, x < S.p) → ∀ x ∈ run4 S.p W H, x < S.p := by
    intro H
    unfold run4
    induction H with
    | nil => exact fun W h => h
    | cons h H ih =>
      intro W hW
      rw [List.foldl_cons]
      refine ih _ fun x hx => ?_
      rcases List.mem_append.1 hx with h1 | h1
      · exact hW x h1
      · rw [List.mem_singleton] at h1; subst h1; exact (hv4_bds wf.v W h).2
  have hA : asnOk S.p S.vars (fin S (u ++ s)) = true := decide_eq_true ⟨hlen, by
    have := fin_head S (u ++ s)
    unfold gv at this
    rw [if_pos ⟨by omega, by have := wf.pos; omega⟩] at this
    exact this, fun i hi => by
    refine hall _ _ (fun x hx => ?_) _ (getD_mem' hi 0)
    rcases List.mem_cons.1 hx with h1 | h1
    · have := vld_pos wf.v; omega
    · exact (hb x h1).2⟩
  have hSat := sat_of (S := S) (I := u ++ s) eR eH
  rw [hf] at hSat
  refine ⟨hC, fun h => ?_, fun h => ?_⟩
  · have hs : satOk S.p S.pub S.vars R (runL S.p S.pub S.vars R S.sec H u s) = true := by
      unfold satOk
      rw [hL, hT, hA, hSat.2 h]
      rfl
    unfold satE
    rw [if_pos hk, if_pos hs]
  · have hs : ¬ satOk S.p S.pub S.vars R (runL S.p S.pub S.vars R S.sec H u s) = true := by
      unfold satOk
      rw [hL, hT, hA]
      intro h2
      exact h (hSat.1 h2)
    unfold satE
    rw [if_pos hk, if_neg hs]
theorem tv14 (p v : Int) (σ : ByteArray → Int) (l r : Tr) : tv p σ (.bin 14 v l r) = if tv p σ l = tv p σ r then 1 else 0 := by
  show (if (14 : Int) = 11 then _ else if (14 : Int) = 14 then _ else _) = _
  rw [if_neg (by decide), if_pos rfl]
theorem tv11 (p v : Int) (σ : ByteArray → Int) (l r : Tr) : tv p σ (.bin 11 v l r) = tv p σ l * tv p σ r % p := by
  show (if (11 : Int) = 11 then _ else _) = _
  rw [if_pos rfl]
theorem tv6 (p v : Int) (σ : ByteArray → Int) (l r : Tr) : tv p σ (.bin 6 v l r) = (absorb p v [tv p σ l, tv p σ r]).a := by
  show (if (6 : Int) = 11 then _ else if (6 : Int) = 14 then _ else _) = _
  rw [if_neg (by decide), if_neg (by decide)]
/-- Program 1: y * y == x over 17. -/
def RT : List Row3 := [⟨[(2,1)],[(2,1)],[(3,1)]⟩, ⟨[(1,16),(3,1)],[(4,1)],[(5,1)]⟩, ⟨[(1,16),(3,1)],[(0,1),(5,16)],[]⟩, ⟨[(4,1)],[(0,1),(5,16)],[]⟩, ⟨[(5,16)],[(0,1)],[]⟩]
theorem cnt_RT : cnt 17 RT 4 [1, 9] = 2 := by decide +kernel
theorem pre_RT : preOk 17 RT [9] = true := by decide +kernel
theorem names0 : inNs (pubN ds0) ds0 ds0.length = [(nX, [(1,1)]), (nY, [(2,1)])] := by kernel_rfl
theorem cs_RT : (cS 17 ds0 T0).R = RT := by
  have v17 : vld 17 = true := by decide
  have n1 : fneg 17 1 = 16 := by decide
  have d1 : subL 17 [(3,1)] [(1,1)] = [(1,16),(3,1)] := by unfold subL addP; rw [if_pos v17, n1]; simp [comb, keepT, fmul, vld]
  have d2 : subL 17 [(0,1)] [(5,1)] = [(0,1),(5,16)] := by unfold subL addP; rw [if_pos v17, n1]; simp [comb, keepT, fmul, vld]
  have d3 : subL 17 [(0,1),(5,16)] [(0,1)] = [(5,16)] := by unfold subL addP; rw [if_pos v17, n1]; simp [comb, keepT, fmul, fadd, vld]
  have k1 : keepT (0, fred 17 1) = [(0,1)] := by decide
  have eT : gTr [(nX, [(1,1)]), (nY, [(2,1)])] T0 (newS 17 (pubN ds0) (secN ds0)) = gEqual (gMul (newS 17 1 1) [(2,1)] [(2,1)]) [(3,1)] [(1,1)] := by kernel_rfl
  have g1 : gEqual (gMul (newS 17 1 1) [(2,1)] [(2,1)]) [(3,1)] [(1,1)] = gIsZero (gMul (newS 17 1 1) [(2,1)] [(2,1)]) [(1,16),(3,1)] := by
    show gIsZero _ (subL 17 [(3,1)] [(1,1)]) = _
    rw [d1]
  have g2 : gIsZero (gMul (newS 17 1 1) [(2,1)] [(2,1)]) [(1,16),(3,1)] = (⟨17, 1, 6, RT.take 4, 1, [⟨1, [(2,1)], [(2,1)], 0⟩, ⟨2, [(1,16),(3,1)], [], 0⟩, ⟨1, [(1,16),(3,1)], [(4,1)], 0⟩]⟩, [(0,1),(5,16)]) := by
    have e : gNot 17 [(5,1)] = [(0,1),(5,16)] := d2
    show (gRow (gRow (gMul (gHint (gMul (newS 17 1 1) [(2,1)] [(2,1)]) 2 [(1,16),(3,1)] [] 0) [(1,16),(3,1)] [(4,1)]) [(1,16),(3,1)] (gNot 17 [(5,1)]) []) [(4,1)] (gNot 17 [(5,1)]) [], gNot 17 [(5,1)]) = _
    rw [e]
    rfl
  unfold cS
  rw [names0, eT, g1, g2, k1]
  show RT.take 4 ++ [⟨subL 17 [(0,1),(5,16)] [(0,1)], [(0,1)], []⟩] = RT
  rw [d3]
  rfl
theorem cs_vars : (cS 17 ds0 T0).p = 17 ∧ (cS 17 ds0 T0).pub = 1 ∧ (cS 17 ds0 T0).vars = 6 ∧ (cS 17 ds0 T0).sec = 1 := ⟨by kernel_rfl, by kernel_rfl, by kernel_rfl, by kernel_rfl⟩
theorem pg0 : PgOk ds0 T0 := by
  have h1 : ∀ d ∈ ds0, NmOk d.2 := fun d hd => by
    rcases List.mem_cons.1 hd with rfl | hd
    · exact nmOkX
    · rcases List.mem_cons.1 hd with rfl | hd
      · exact nmOkY
      · cases hd
  have h2 : ∀ j, j < ds0.length → getM (syL ((nms ds0).take j)) (ds0.getD j (false, ⟨#[]⟩)).2 = none := fun j hj => by
    rcases (show j = 0 ∨ j = 1 by have : j < 2 := hj; omega) with rfl | rfl
    · kernel_rfl
    · kernel_rfl
  exact ⟨T0_ok, T0_dep, h1, by decide, h2, ⟨.inr (.inr rfl), ⟨.inr (.inl rfl), (show getM (syL (nms ds0)) nY = some symV by kernel_rfl), (show getM (syL (nms ds0)) nY = some symV by kernel_rfl)⟩, (show getM (syL (nms ds0)) nX = some symV by kernel_rfl)⟩, rfl⟩
theorem gok0 : T0.gok (inNs (pubN ds0) ds0 ds0.length) := by
  rw [names0]
  exact ⟨.inr (.inl rfl), ⟨by decide, by decide⟩, ⟨.inl rfl, ⟨by decide, by decide⟩, ⟨[(2,1)], by kernel_rfl, by simp⟩, ⟨[(2,1)], by kernel_rfl, by simp⟩⟩, ⟨[(1,1)], by kernel_rfl, by simp⟩⟩
theorem in0 : ∀ x ∈ inNs (pubN ds0) ds0 ds0.length, ∃ i : Nat, i < 2 ∧ x.2 = [(1 + (i : Int), 1)] := by
  rw [names0]
  intro x hx
  rcases List.mem_cons.1 hx with rfl | hx
  · exact ⟨0, by decide, rfl⟩
  · rcases List.mem_cons.1 hx with rfl | hx
    · exact ⟨1, by decide, rfl⟩
    · cases hx
theorem ext0 (a b : Int) (ha : 0 ≤ a ∧ a < 17) (hb : 0 ≤ b ∧ b < 17) : Wf (cS 17 ds0 T0) ([a] ++ [b]) ∧ (Sat (cS 17 ds0 T0) ([a] ++ [b]) ↔ b * b % 17 = a) := by
  have hI : ∀ x ∈ [a, b], 0 ≤ x ∧ x < 17 := fun x hx => by
    rcases List.mem_cons.1 hx with rfl | hx
    · exact ha
    · rcases List.mem_cons.1 hx with rfl | hx
      · exact hb
      · cases hx
  have hv : vld 17 = true := by decide
  obtain ⟨wf, s, _⟩ := cS_ext (p := 17) (ds := ds0) (t := T0) (I := [a, b]) hv gok0 hI rfl in0
  refine ⟨wf, s.trans ?_⟩
  have hx : nmV 17 ds0 [a, b] nX = a := (new_in (p := 17) (pub := 1) (sec := 1) (I := [a, b]) hv hI ⟨by decide, by decide, rfl⟩ (i := 0) (by decide : 0 < 2)).2
  have hy : nmV 17 ds0 [a, b] nY = b := (new_in (p := 17) (pub := 1) (sec := 1) (I := [a, b]) hv hI ⟨by decide, by decide, rfl⟩ (i := 1) (by decide : 1 < 2)).2
  have e : tv 17 (nmV 17 ds0 [a, b]) T0 = if nmV 17 ds0 [a, b] nY * nmV 17 ds0 [a, b] nY % 17 = nmV 17 ds0 [a, b] nX then 1 else 0 := by
    unfold T0
    rw [tv14, tv11]
    rfl
  rw [e, hx, hy]
  split
  · rename_i h; exact ⟨fun _ => h, fun _ => rfl⟩
  · rename_i h; exact ⟨fun h2 => absurd h2 (by decide), fun h2 => absurd h2 h⟩
theorem cp0 : CpOk 17 ds0 T0 := by
  obtain ⟨wf, _⟩ := ext0 0 0 (by decide) (by decide)
  have h6 := cs_vars.2.2.1
  have h2 : ∀ j, j < ds0.length → getN (inNs (pubN ds0) ds0 j) (ds0.getD j (false, ⟨#[]⟩)).2 = none := fun j hj => by
    rcases (show j = 0 ∨ j = 1 by have : j < 2 := hj; omega) with rfl | rfl
    · kernel_rfl
    · kernel_rfl
  exact ⟨pg0, h2, gok0, by decide +kernel, by decide, wf.szR (by omega), wf.szH (by omega)⟩
end Go.Proofs.YtalmgeefkcebdaaGreatDoor

