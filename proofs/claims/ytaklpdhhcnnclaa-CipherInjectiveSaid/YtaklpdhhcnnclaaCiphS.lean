/- The cipher: the reference's Seal, Tag, Open; copies. -/
import Derived.Test.YtaklpdhhcnnclaaCiphR
namespace Go.Proofs.Ytaklpdhhcnnclaa
open Go.RowKit

theorem elB_cases (key nonce : Int) (xs : List Int) : (key < 18446744069414584321 ∧ nonce < 18446744069414584321 ∧ elB key nonce xs = redB xs) ∨ (key < 18446744069414584321 ∧ ¬ nonce < 18446744069414584321 ∧ elB key nonce xs = false) ∨ (¬ key < 18446744069414584321 ∧ elB key nonce xs = false) := by
  by_cases h1 : key < 18446744069414584321
  · by_cases h2 : nonce < 18446744069414584321
    · refine .inl ⟨h1, h2, ?_⟩
      unfold elB
      rw [decide_eq_true (show key < big from h1), decide_eq_true (show nonce < big from h2)]
      rfl
    · refine .inr (.inl ⟨h1, h2, ?_⟩)
      unfold elB
      rw [decide_eq_false (show ¬ nonce < big from h2)]
      simp
  · refine .inr (.inr ⟨h1, ?_⟩)
    unfold elB
    rw [decide_eq_false (show ¬ key < big from h1)]
    simp

theorem seal_yes {key nonce : Int} {xs : List Int} (h : elB key nonce xs = true) : seal_ key nonce xs = cOut true key nonce xs ++ [cTag true key nonce xs] := by unfold seal_; rw [if_pos h]
theorem seal_no {key nonce : Int} {xs : List Int} (h : elB key nonce xs = false) : seal_ key nonce xs = [] := by unfold seal_; rw [h]; rfl
theorem tag_yes {key nonce : Int} {xs : List Int} (h : elB key nonce xs = true) : tag_ key nonce xs = cTag false key nonce xs := by unfold tag_; rw [if_pos h]
theorem tag_no {key nonce : Int} {xs : List Int} (h : elB key nonce xs = false) : tag_ key nonce xs = 0 := by unfold tag_; rw [h]; rfl

set_option maxHeartbeats 2000000 in
theorem rSeal_any (key nonce : Int) (ad : Option Addr) (c : Nat) (xs : List Int) (w : World) (k0 : 0 ≤ key) (k1 : key < 18446744073709551616) (g0 : 0 ≤ nonce) (g1 : nonce < 18446744073709551616) (hs : Sl w .u64 ad xs) (hw : AllW xs) (hl : xs.length < 1099511627770) :
    Calls Try.prog 53 #[.int .u64 key, .int .u64 nonce, .slice ad xs.length c] w (RetSl w 22 .u64 (seal_ key nonce xs)) := by
  have cR := fun W hs => rReduced9_any ad c xs W hs (by omega)
  have cD := fun (W : World) hs => rRun_true key nonce ad c xs W k0 k1 g0 g1 hs hw hl
  clear k1 g1
  rcases elB_cases key nonce xs with ⟨h1, h2, he⟩ | ⟨h1, h2, he⟩ | ⟨h1, he⟩
  · have q1 : ¬ 18446744069414584321 ≤ key := by omega
    have q2 : ¬ 18446744069414584321 ≤ nonce := by omega
    by_cases hr : redB xs = true
    · rw [hr] at cR he
      rw [seal_yes he]
      have hlen := cOut_len true key nonce xs
      obtain ⟨l, hl'⟩ : ∃ l, l = cOut true key nonce xs := ⟨_, rfl⟩
      obtain ⟨t, ht⟩ : ∃ t, t = cTag true key nonce xs := ⟨_, rfl⟩
      rw [← hl', ← ht] at cD ⊢
      rw [← hl'] at hlen
      replace hlen := hide hlen
      clear hl' ht he hr h1 h2
      go_enter Try.func53, Try.ntmps53
      go_wp2_with fail
      refine (cR w hs).mono ?_
      rintro e w1 ⟨rfl, hb1⟩
      clear cR
      go_wp2_with fail
      refine (cD w1 (hs.mono hb1)).mono ?_
      rintro e w2 ⟨v, rfl, hown, hb2⟩
      replace hown := hown.low hb1.size
      replace hb2 := below2 hb1 hb2
      clear cD hb1
      go_wp2_with (at_builtin; refine wpList_appZ _ 22 .u64 _ rfl _ _ 31 rfl w.heap.size 8 Try.underlying31 Try.infoU64 (by decide) _ l _ rfl rfl (by simp) hown (by have := hlen.out; omega) hb2.size ?_; intro v' w' hown' hg; refine Hold.mk ?_)
      refine Hold.go ?_
      have hb3 := hg.below hb2 hown (Nat.le_refl _) hb2.size
      clear hg hown
      go_wp2
      go_ret
      exact ⟨_, rfl, hown', hb3⟩
    · replace hr : redB xs = false := by simpa using hr
      rw [hr] at cR he
      rw [seal_no he]
      clear he hr h1 h2 cD
      go_enter Try.func53, Try.ntmps53
      go_wp2_with fail
      refine (cR w hs).mono ?_
      rintro e w1 ⟨rfl, hb1⟩
      clear cR
      go_wp2
      go_ret
      exact ⟨_, rfl, Own.nil _ _ _ _, hb1⟩
  · have q1 : ¬ 18446744069414584321 ≤ key := by omega
    have q2 : 18446744069414584321 ≤ nonce := by omega
    rw [seal_no he]
    clear he h1 h2 cD cR
    go_enter Try.func53, Try.ntmps53
    go_wp2
    go_ret
    exact ⟨_, rfl, Own.nil _ _ _ _, Below.refl _ _⟩
  · have q1 : 18446744069414584321 ≤ key := by omega
    rw [seal_no he]
    clear he h1 cD cR
    go_enter Try.func53, Try.ntmps53
    go_wp2
    go_ret
    exact ⟨_, rfl, Own.nil _ _ _ _, Below.refl _ _⟩

set_option maxHeartbeats 2000000 in
theorem rTag_any (key nonce : Int) (ad : Option Addr) (c : Nat) (xs : List Int) (w : World) (k0 : 0 ≤ key) (k1 : key < 18446744073709551616) (g0 : 0 ≤ nonce) (g1 : nonce < 18446744073709551616) (hs : Sl w .u64 ad xs) (hw : AllW xs) (hl : xs.length < 1099511627770) :
    Calls Try.prog 58 #[.int .u64 key, .int .u64 nonce, .slice ad xs.length c] w fun e w' => e = .returned (.int .u64 (tag_ key nonce xs)) ∧ Below w.heap.size w w' := by
  have cR := fun W hs => rReduced9_any ad c xs W hs (by omega)
  have cD := fun (W : World) hs => rRun_false key nonce ad c xs W k0 k1 g0 g1 hs hw hl
  clear k1 g1
  rcases elB_cases key nonce xs with ⟨h1, h2, he⟩ | ⟨h1, h2, he⟩ | ⟨h1, he⟩
  · have q1 : ¬ 18446744069414584321 ≤ key := by omega
    have q2 : ¬ 18446744069414584321 ≤ nonce := by omega
    by_cases hr : redB xs = true
    · rw [hr] at cR he
      rw [tag_yes he]
      obtain ⟨t, ht⟩ : ∃ t, t = cTag false key nonce xs := ⟨_, rfl⟩
      rw [← ht] at cD ⊢
      clear ht he hr h1 h2
      go_enter Try.func58, Try.ntmps58
      go_wp2_with fail
      refine (cR w hs).mono ?_
      rintro e w1 ⟨rfl, hb1⟩
      clear cR
      go_wp2_with fail
      refine (cD w1 (hs.mono hb1)).mono ?_
      rintro e w2 ⟨v, rfl, hown, hb2⟩
      clear cD
      go_wp2
      go_ret
      exact ⟨rfl, below2 hb1 hb2⟩
    · replace hr : redB xs = false := by simpa using hr
      rw [hr] at cR he
      rw [tag_no he]
      clear he hr h1 h2 cD
      go_enter Try.func58, Try.ntmps58
      go_wp2_with fail
      refine (cR w hs).mono ?_
      rintro e w1 ⟨rfl, hb1⟩
      clear cR
      go_wp2
      go_ret
      exact ⟨rfl, hb1⟩
  · have q1 : ¬ 18446744069414584321 ≤ key := by omega
    have q2 : 18446744069414584321 ≤ nonce := by omega
    rw [tag_no he]
    clear he h1 h2 cD cR
    go_enter Try.func58, Try.ntmps58
    go_wp2
    go_ret
    exact ⟨rfl, Below.refl _ _⟩
  · have q1 : 18446744069414584321 ≤ key := by omega
    rw [tag_no he]
    clear he h1 cD cR
    go_enter Try.func58, Try.ntmps58
    go_wp2
    go_ret
    exact ⟨rfl, Below.refl _ _⟩

theorem open_no {key nonce : Int} {xs : List Int} (h : openOk key nonce xs = false) : open_ key nonce xs = [] := by unfold open_; rw [h]; rfl
theorem ok_no {key nonce : Int} {xs : List Int} (h : elB key nonce xs = false) : openOk key nonce xs = false := by unfold openOk; rw [h]; simp

set_option maxHeartbeats 2000000 in
theorem rOpen_any (key nonce : Int) (ad : Option Addr) (c : Nat) (xs : List Int) (w : World) (k0 : 0 ≤ key) (k1 : key < 18446744073709551616) (g0 : 0 ≤ nonce) (g1 : nonce < 18446744073709551616) (hs : Sl w .u64 ad xs) (hw : AllW xs) (hl : xs.length < 1099511627770) (hlc : xs.length ≤ c) :
    Calls Try.prog 55 #[.int .u64 key, .int .u64 nonce, .slice ad xs.length c] w (RetOpen w (open_ key nonce xs) (openOk key nonce xs)) := by
  by_cases h0 : xs.length = 0
  · have ho : openOk key nonce xs = false := by
      have : xs = [] := List.eq_nil_of_length_eq_zero h0
      subst this; rfl
    rw [open_no ho, ho, h0]
    clear ho k1 g1 h0 hl hlc
    go_enter Try.func55, Try.ntmps55
    go_wp2
    go_ret2
    exact ⟨_, rfl, Own.nil _ _ _ _, Below.refl _ _⟩
  · obtain ⟨m, hm⟩ : ∃ m, xs.length = m + 1 := ⟨xs.length - 1, by omega⟩
    have cR := fun W hs => rReduced9_any ad c xs W hs (by omega)
    have hlt : (xs.take m).length = m := by rw [List.length_take]; omega
    have cD := fun (W : World) hs => rRun_false key nonce ad c (xs.take m) W k0 k1 g0 g1 hs (hw.take m) (by omega)
    rw [hlt] at cD
    have hmc : (m : Int) + 1 - 1 = m := by omega
    have hmn : ¬ (m : Int) < 0 := by omega
    have hm40 : m < 1099511627775 := by omega
    have hmcap : m ≤ c := by omega
    clear k1 g1
    rcases elB_cases key nonce xs with ⟨h1, h2, he⟩ | ⟨h1, h2, he⟩ | ⟨h1, he⟩
    · have q1 : ¬ 18446744069414584321 ≤ key := by omega
      have q2 : ¬ 18446744069414584321 ≤ nonce := by omega
      by_cases hr : redB xs = true
      · rw [hr] at cR he
        have hemp : xs.isEmpty = false := by cases xs with | nil => simp at h0 | cons _ _ => rfl
        have ho : openOk key nonce xs = decide (cTag false key nonce (xs.take m) = xs.getD m 0) := by
          unfold openOk
          rw [he, hemp, hm, Nat.add_sub_cancel]
          simp
        have ho2 : open_ key nonce xs = if decide (cTag false key nonce (xs.take m) = xs.getD m 0) then cOut false key nonce (xs.take m) else [] := by
          unfold open_
          rw [ho, hm, Nat.add_sub_cancel]
        rw [ho, ho2]
        have hx := hw.get (show m < xs.length by omega)
        obtain ⟨b, off, rfl, _, hc⟩ := hs.get (show m < xs.length by omega)
        obtain ⟨x, hx'⟩ : ∃ x, x = xs.getD m 0 := ⟨_, rfl⟩
        rw [← hx'] at hc hx ⊢
        obtain ⟨t, ht⟩ : ∃ t, t = cTag false key nonce (xs.take m) := ⟨_, rfl⟩
        rw [← ht] at cD ⊢
        obtain ⟨l, hl'⟩ : ∃ l, l = cOut false key nonce (xs.take m) := ⟨_, rfl⟩
        rw [← hl'] at cD ⊢
        rw [hm] at cR ⊢
        clear ho ho2 ht hl' hx' hlt hw he hemp h0 hlc hr h1 h2
        replace hm := hide hm
        by_cases hxt : t = x
        · have hd : decide (t = x) = true := by simpa using hxt
          rw [hd]
          have hne : (t != x) = false := by simpa using hxt
          replace hxt := hide hxt
          go_enter Try.func55, Try.ntmps55
          go_wp2_with fail
          refine (cR w hs).mono ?_
          rintro e w1 ⟨rfl, hb1⟩
          replace hc := cell_below hb1 hc
          replace hs := (hs.mono hb1).take m
          clear cR
          go_wp2_with fail
          refine (cD _ hs).mono ?_
          rintro e w2 ⟨v, rfl, hown, hb2⟩
          replace hc := cell_below hb2 hc
          replace hown := hown.low hb1.size
          replace hb2 := below2 hb1 hb2
          clear cD hb1 hs hd
          go_wp2
          go_ret2
          exact ⟨_, rfl, hown, hb2⟩
        · have hd : decide (t = x) = false := by simpa using hxt
          rw [hd]
          have hne : (t != x) = true := by simpa using hxt
          replace hxt := hide hxt
          go_enter Try.func55, Try.ntmps55
          go_wp2_with fail
          refine (cR w hs).mono ?_
          rintro e w1 ⟨rfl, hb1⟩
          replace hc := cell_below hb1 hc
          replace hs := (hs.mono hb1).take m
          clear cR
          go_wp2_with fail
          refine (cD _ hs).mono ?_
          rintro e w2 ⟨v, rfl, hown, hb2⟩
          replace hc := cell_below hb2 hc
          replace hown := hown.low hb1.size
          replace hb2 := below2 hb1 hb2
          clear cD hb1 hs hd
          go_wp2
          go_ret2
          exact ⟨_, rfl, Own.nil _ _ _ _, hb2⟩
      · replace hr : redB xs = false := by simpa using hr
        rw [hr] at cR he
        have ho := ok_no he
        rw [open_no ho, ho]
        rw [hm] at cR ⊢
        clear he hr h1 h2 cD ho h0 hlc
        replace hm := hide hm
        go_enter Try.func55, Try.ntmps55
        go_wp2_with fail
        refine (cR w hs).mono ?_
        rintro e w1 ⟨rfl, hb1⟩
        clear cR
        go_wp2
        go_ret2
        exact ⟨_, rfl, Own.nil _ _ _ _, hb1⟩
    · have q1 : ¬ 18446744069414584321 ≤ key := by omega
      have q2 : 18446744069414584321 ≤ nonce := by omega
      have ho := ok_no he
      rw [open_no ho, ho]
      rw [hm]
      clear he h1 h2 cD cR ho h0 hlc
      replace hm := hide hm
      go_enter Try.func55, Try.ntmps55
      go_wp2
      go_ret2
      exact ⟨_, rfl, Own.nil _ _ _ _, Below.refl _ _⟩
    · have q1 : 18446744069414584321 ≤ key := by omega
      have ho := ok_no he
      rw [open_no ho, ho]
      rw [hm]
      clear he h1 cD cR ho h0 hlc
      replace hm := hide hm
      go_enter Try.func55, Try.ntmps55
      go_wp2
      go_ret2
      exact ⟨_, rfl, Own.nil _ _ _ _, Below.refl _ _⟩

set_option maxHeartbeats 1000000 in
theorem cp_any (ad : Option Addr) (c : Nat) (xs : List Int) (w : World) (hs : Sl w .u64 ad xs) (hl : xs.length < 1099511627776) :
    Calls Try.prog 52 #[.slice ad xs.length c] w (RetSl w 22 .u64 xs) := by
  go_enter Try.func52, Try.ntmps52
  go_wp2_with (at_builtin; refine wpList_app _ rfl _ _ 31 rfl w.heap.size 22 .u64 8 Try.underlying31 Try.infoU64 (by decide) _ [] xs c ad rfl rfl (Own.empty (Nat.le_refl _)) (hs.alloc _) (by simp; omega) (by simp) ?_; intro v' w' hown hg; refine Hold.mk ?_)
  refine Hold.go ?_
  have hb2 : Below w.heap.size w w' := hg.below ((Below.refl _ _).alloc (Nat.le_refl _) _) (Own.empty (base := w.heap.size) (k := .u64) (Nat.le_refl _)) (Nat.le_refl _) (by simp)
  rw [List.nil_append] at hown
  clear hg
  go_wp2
  go_ret
  exact ⟨_, rfl, hown, hb2⟩

end Go.Proofs.Ytaklpdhhcnnclaa
