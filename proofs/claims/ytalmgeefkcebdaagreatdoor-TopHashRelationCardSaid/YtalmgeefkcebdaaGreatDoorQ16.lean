/- The tokens of the text of awake23. -/
import Derived.Test.YtalmgeefkcebdaaGreatDoorQ15
namespace Go.Proofs.YtalmgeefkcebdaaGreatDoor
open Go.RowKit

def txt : ByteArray := ⟨#[112, 117, 98, 108, 105, 99, 32, 120, 58, 32, 102, 105, 101, 108, 100, 59, 32, 115, 101, 99, 114, 101, 116, 32, 121, 58, 32, 102, 105, 101, 108, 100, 59, 32, 97, 115, 115, 101, 114, 116, 32, 121, 32, 42, 32, 121, 32, 61, 61, 32, 120, 59]⟩
structure Tk4 where
  k : Int
  t : ByteArray
  p : Int
instance : Inhabited Tk4 := ⟨⟨0, ⟨#[]⟩, 0⟩⟩
def tkV (t : Tk4) : List Value := [.int .i64 t.k, .string t.t, .int .u64 0, .int .i64 t.p]
def tkL : Lay Tk4 := ⟨tkV, 4, fun _ => rfl, by decide, fun x u hu => by
  simp only [tkV, List.mem_cons, List.not_mem_nil, or_false] at hu
  rcases hu with rfl | rfl | rfl | rfl <;> rfl⟩
theorem Tryz.infoTk : (Tryz.prog.info? 149).map (fun i => (i.zero, i.size, i.bytes)) = some (some (.agg #[.int .i64 0, .string ⟨#[]⟩, .int .u64 0, .int .i64 0]), 4, 40) := by kernel_rfl

def XTk (T : TypeId) : Prop := T = 149
theorem ownG_nb {α : Type} {L : Lay α} {w : World} {base : Nat} {E : TypeId} {v : Value} {xs : List α} (h : OwnG L w base E v xs) : v.ownBlock ≠ some w.heap.size := by
  rcases h.form with ⟨rfl, rfl⟩ | ⟨g, cap, cur, rfl, _, g2, _⟩
  · intro e; cases e
  · intro e
    have := g2.lt
    simp only [Value.ownBlock, Option.some.injEq] at e
    omega
/-- The tokens, without the end. -/
def tks : List Tk4 := [⟨2, ⟨#[112, 117, 98, 108, 105, 99]⟩, 0⟩, ⟨1, ⟨#[120]⟩, 7⟩, ⟨4, ⟨#[58]⟩, 8⟩, ⟨2, ⟨#[102, 105, 101, 108, 100]⟩, 10⟩, ⟨4, ⟨#[59]⟩, 15⟩, ⟨2, ⟨#[115, 101, 99, 114, 101, 116]⟩, 17⟩, ⟨1, ⟨#[121]⟩, 24⟩, ⟨4, ⟨#[58]⟩, 25⟩, ⟨2, ⟨#[102, 105, 101, 108, 100]⟩, 27⟩, ⟨4, ⟨#[59]⟩, 32⟩, ⟨2, ⟨#[97, 115, 115, 101, 114, 116]⟩, 34⟩, ⟨1, ⟨#[121]⟩, 41⟩, ⟨4, ⟨#[42]⟩, 43⟩, ⟨1, ⟨#[121]⟩, 45⟩, ⟨4, ⟨#[61, 61]⟩, 47⟩, ⟨1, ⟨#[120]⟩, 50⟩, ⟨4, ⟨#[59]⟩, 51⟩]
def posN (k : Nat) : Nat := [0, 7, 8, 10, 15, 17, 24, 25, 27, 32, 34, 41, 43, 45, 47, 50, 51, 52].getD k 0
theorem txt_size : txt.size = 52 := by kernel_rfl

theorem nx0 (m : Int) (w : World) (_ : w.cell? ⟨5, 0, none⟩ = some (.int .i64 m)) : Calls Tryz.prog 119 #[.string txt, .int .i64 0] w (RetTok w 2 ⟨#[112, 117, 98, 108, 105, 99]⟩ 0) := by
  have h := nextWord_any txt (txt.extract 0 txt.size) 0 6 112 true w (by decide +kernel) (by decide +kernel) rfl (by decide +kernel) (by decide +kernel) (by kernel_rfl) (by decide) (by kernel_rfl) (by decide +kernel) (by kernel_rfl) (by decide)
  rw [show (txt.extract 0 txt.size).extract 0 6 = (⟨#[112, 117, 98, 108, 105, 99]⟩ : ByteArray) from by kernel_rfl] at h
  exact h
theorem nx1 (m : Int) (w : World) (_ : w.cell? ⟨5, 0, none⟩ = some (.int .i64 m)) : Calls Tryz.prog 119 #[.string txt, .int .i64 7] w (RetTok w 1 ⟨#[120]⟩ 7) := by
  have h := nextWord_any txt (txt.extract 7 txt.size) 7 1 120 false w (by decide +kernel) (by decide +kernel) rfl (by decide +kernel) (by decide +kernel) (by kernel_rfl) (by decide) (by kernel_rfl) (by decide +kernel) (by kernel_rfl) (by decide)
  rw [show (txt.extract 7 txt.size).extract 0 1 = (⟨#[120]⟩ : ByteArray) from by kernel_rfl] at h
  exact h
theorem nx2 (m : Int) (w : World) (hm : w.cell? ⟨5, 0, none⟩ = some (.int .i64 m)) : Calls Tryz.prog 119 #[.string txt, .int .i64 8] w (RetTok w 4 ⟨#[58]⟩ 8) := by
  have h := nextSym1_any txt (txt.extract 8 txt.size) 8 58 m w (by decide +kernel) (by decide +kernel) rfl (by decide +kernel) (by decide +kernel) (by kernel_rfl) (by decide) (by decide) (by kernel_rfl) (by decide +kernel) hm
  rw [show (txt.extract 8 txt.size).extract 0 1 = (⟨#[58]⟩ : ByteArray) from by kernel_rfl] at h
  exact h
theorem nx3 (m : Int) (w : World) (_ : w.cell? ⟨5, 0, none⟩ = some (.int .i64 m)) : Calls Tryz.prog 119 #[.string txt, .int .i64 10] w (RetTok w 2 ⟨#[102, 105, 101, 108, 100]⟩ 10) := by
  have h := nextWord_any txt (txt.extract 10 txt.size) 10 5 102 true w (by decide +kernel) (by decide +kernel) rfl (by decide +kernel) (by decide +kernel) (by kernel_rfl) (by decide) (by kernel_rfl) (by decide +kernel) (by kernel_rfl) (by decide)
  rw [show (txt.extract 10 txt.size).extract 0 5 = (⟨#[102, 105, 101, 108, 100]⟩ : ByteArray) from by kernel_rfl] at h
  exact h
theorem nx4 (m : Int) (w : World) (hm : w.cell? ⟨5, 0, none⟩ = some (.int .i64 m)) : Calls Tryz.prog 119 #[.string txt, .int .i64 15] w (RetTok w 4 ⟨#[59]⟩ 15) := by
  have h := nextSym1_any txt (txt.extract 15 txt.size) 15 59 m w (by decide +kernel) (by decide +kernel) rfl (by decide +kernel) (by decide +kernel) (by kernel_rfl) (by decide) (by decide) (by kernel_rfl) (by decide +kernel) hm
  rw [show (txt.extract 15 txt.size).extract 0 1 = (⟨#[59]⟩ : ByteArray) from by kernel_rfl] at h
  exact h
theorem nx5 (m : Int) (w : World) (_ : w.cell? ⟨5, 0, none⟩ = some (.int .i64 m)) : Calls Tryz.prog 119 #[.string txt, .int .i64 17] w (RetTok w 2 ⟨#[115, 101, 99, 114, 101, 116]⟩ 17) := by
  have h := nextWord_any txt (txt.extract 17 txt.size) 17 6 115 true w (by decide +kernel) (by decide +kernel) rfl (by decide +kernel) (by decide +kernel) (by kernel_rfl) (by decide) (by kernel_rfl) (by decide +kernel) (by kernel_rfl) (by decide)
  rw [show (txt.extract 17 txt.size).extract 0 6 = (⟨#[115, 101, 99, 114, 101, 116]⟩ : ByteArray) from by kernel_rfl] at h
  exact h
theorem nx6 (m : Int) (w : World) (_ : w.cell? ⟨5, 0, none⟩ = some (.int .i64 m)) : Calls Tryz.prog 119 #[.string txt, .int .i64 24] w (RetTok w 1 ⟨#[121]⟩ 24) := by
  have h := nextWord_any txt (txt.extract 24 txt.size) 24 1 121 false w (by decide +kernel) (by decide +kernel) rfl (by decide +kernel) (by decide +kernel) (by kernel_rfl) (by decide) (by kernel_rfl) (by decide +kernel) (by kernel_rfl) (by decide)
  rw [show (txt.extract 24 txt.size).extract 0 1 = (⟨#[121]⟩ : ByteArray) from by kernel_rfl] at h
  exact h
theorem nx7 (m : Int) (w : World) (hm : w.cell? ⟨5, 0, none⟩ = some (.int .i64 m)) : Calls Tryz.prog 119 #[.string txt, .int .i64 25] w (RetTok w 4 ⟨#[58]⟩ 25) := by
  have h := nextSym1_any txt (txt.extract 25 txt.size) 25 58 m w (by decide +kernel) (by decide +kernel) rfl (by decide +kernel) (by decide +kernel) (by kernel_rfl) (by decide) (by decide) (by kernel_rfl) (by decide +kernel) hm
  rw [show (txt.extract 25 txt.size).extract 0 1 = (⟨#[58]⟩ : ByteArray) from by kernel_rfl] at h
  exact h
theorem nx8 (m : Int) (w : World) (_ : w.cell? ⟨5, 0, none⟩ = some (.int .i64 m)) : Calls Tryz.prog 119 #[.string txt, .int .i64 27] w (RetTok w 2 ⟨#[102, 105, 101, 108, 100]⟩ 27) := by
  have h := nextWord_any txt (txt.extract 27 txt.size) 27 5 102 true w (by decide +kernel) (by decide +kernel) rfl (by decide +kernel) (by decide +kernel) (by kernel_rfl) (by decide) (by kernel_rfl) (by decide +kernel) (by kernel_rfl) (by decide)
  rw [show (txt.extract 27 txt.size).extract 0 5 = (⟨#[102, 105, 101, 108, 100]⟩ : ByteArray) from by kernel_rfl] at h
  exact h
theorem nx9 (m : Int) (w : World) (hm : w.cell? ⟨5, 0, none⟩ = some (.int .i64 m)) : Calls Tryz.prog 119 #[.string txt, .int .i64 32] w (RetTok w 4 ⟨#[59]⟩ 32) := by
  have h := nextSym1_any txt (txt.extract 32 txt.size) 32 59 m w (by decide +kernel) (by decide +kernel) rfl (by decide +kernel) (by decide +kernel) (by kernel_rfl) (by decide) (by decide) (by kernel_rfl) (by decide +kernel) hm
  rw [show (txt.extract 32 txt.size).extract 0 1 = (⟨#[59]⟩ : ByteArray) from by kernel_rfl] at h
  exact h
theorem nx10 (m : Int) (w : World) (_ : w.cell? ⟨5, 0, none⟩ = some (.int .i64 m)) : Calls Tryz.prog 119 #[.string txt, .int .i64 34] w (RetTok w 2 ⟨#[97, 115, 115, 101, 114, 116]⟩ 34) := by
  have h := nextWord_any txt (txt.extract 34 txt.size) 34 6 97 true w (by decide +kernel) (by decide +kernel) rfl (by decide +kernel) (by decide +kernel) (by kernel_rfl) (by decide) (by kernel_rfl) (by decide +kernel) (by kernel_rfl) (by decide)
  rw [show (txt.extract 34 txt.size).extract 0 6 = (⟨#[97, 115, 115, 101, 114, 116]⟩ : ByteArray) from by kernel_rfl] at h
  exact h
theorem nx11 (m : Int) (w : World) (_ : w.cell? ⟨5, 0, none⟩ = some (.int .i64 m)) : Calls Tryz.prog 119 #[.string txt, .int .i64 41] w (RetTok w 1 ⟨#[121]⟩ 41) := by
  have h := nextWord_any txt (txt.extract 41 txt.size) 41 1 121 false w (by decide +kernel) (by decide +kernel) rfl (by decide +kernel) (by decide +kernel) (by kernel_rfl) (by decide) (by kernel_rfl) (by decide +kernel) (by kernel_rfl) (by decide)
  rw [show (txt.extract 41 txt.size).extract 0 1 = (⟨#[121]⟩ : ByteArray) from by kernel_rfl] at h
  exact h
theorem nx12 (m : Int) (w : World) (hm : w.cell? ⟨5, 0, none⟩ = some (.int .i64 m)) : Calls Tryz.prog 119 #[.string txt, .int .i64 43] w (RetTok w 4 ⟨#[42]⟩ 43) := by
  have h := nextSym1_any txt (txt.extract 43 txt.size) 43 42 m w (by decide +kernel) (by decide +kernel) rfl (by decide +kernel) (by decide +kernel) (by kernel_rfl) (by decide) (by decide) (by kernel_rfl) (by decide +kernel) hm
  rw [show (txt.extract 43 txt.size).extract 0 1 = (⟨#[42]⟩ : ByteArray) from by kernel_rfl] at h
  exact h
theorem nx13 (m : Int) (w : World) (_ : w.cell? ⟨5, 0, none⟩ = some (.int .i64 m)) : Calls Tryz.prog 119 #[.string txt, .int .i64 45] w (RetTok w 1 ⟨#[121]⟩ 45) := by
  have h := nextWord_any txt (txt.extract 45 txt.size) 45 1 121 false w (by decide +kernel) (by decide +kernel) rfl (by decide +kernel) (by decide +kernel) (by kernel_rfl) (by decide) (by kernel_rfl) (by decide +kernel) (by kernel_rfl) (by decide)
  rw [show (txt.extract 45 txt.size).extract 0 1 = (⟨#[121]⟩ : ByteArray) from by kernel_rfl] at h
  exact h
theorem nx14 (m : Int) (w : World) (hm : w.cell? ⟨5, 0, none⟩ = some (.int .i64 m)) : Calls Tryz.prog 119 #[.string txt, .int .i64 47] w (RetTok w 4 ⟨#[61, 61]⟩ 47) := by
  have h := nextSym2_any txt (txt.extract 47 txt.size) 47 61 m w (by decide +kernel) (by decide +kernel) rfl (by decide +kernel) (by decide +kernel) (by kernel_rfl) (by decide) (by decide) (by kernel_rfl) hm
  rw [show (txt.extract 47 txt.size).extract 0 2 = (⟨#[61, 61]⟩ : ByteArray) from by kernel_rfl] at h
  exact h
theorem nx15 (m : Int) (w : World) (_ : w.cell? ⟨5, 0, none⟩ = some (.int .i64 m)) : Calls Tryz.prog 119 #[.string txt, .int .i64 50] w (RetTok w 1 ⟨#[120]⟩ 50) := by
  have h := nextWord_any txt (txt.extract 50 txt.size) 50 1 120 false w (by decide +kernel) (by decide +kernel) rfl (by decide +kernel) (by decide +kernel) (by kernel_rfl) (by decide) (by kernel_rfl) (by decide +kernel) (by kernel_rfl) (by decide)
  rw [show (txt.extract 50 txt.size).extract 0 1 = (⟨#[120]⟩ : ByteArray) from by kernel_rfl] at h
  exact h
theorem nx16 (m : Int) (w : World) (_ : w.cell? ⟨5, 0, none⟩ = some (.int .i64 m)) : Calls Tryz.prog 119 #[.string txt, .int .i64 51] w (RetTok w 4 ⟨#[59]⟩ 51) := by
  have h := nextSym0_any txt (txt.extract 51 txt.size) 51 59 w (by decide +kernel) (by decide +kernel) rfl (by decide +kernel) (by kernel_rfl) (by kernel_rfl) (by decide) (by decide) (by decide +kernel)
  rw [show (txt.extract 51 txt.size).extract 0 1 = (⟨#[59]⟩ : ByteArray) from by kernel_rfl] at h
  exact h
theorem next_all (k : Nat) (hk : k < 17) (m : Int) (w : World) (hm : w.cell? ⟨5, 0, none⟩ = some (.int .i64 m)) : Calls Tryz.prog 119 #[.string txt, .int .i64 (posN k)] w (RetTok w (tks.getD k default).k (tks.getD k default).t (tks.getD k default).p) := by
  match k, hk with
  | 0, _ => exact nx0 m w hm
  | 1, _ => exact nx1 m w hm
  | 2, _ => exact nx2 m w hm
  | 3, _ => exact nx3 m w hm
  | 4, _ => exact nx4 m w hm
  | 5, _ => exact nx5 m w hm
  | 6, _ => exact nx6 m w hm
  | 7, _ => exact nx7 m w hm
  | 8, _ => exact nx8 m w hm
  | 9, _ => exact nx9 m w hm
  | 10, _ => exact nx10 m w hm
  | 11, _ => exact nx11 m w hm
  | 12, _ => exact nx12 m w hm
  | 13, _ => exact nx13 m w hm
  | 14, _ => exact nx14 m w hm
  | 15, _ => exact nx15 m w hm
  | 16, _ => exact nx16 m w hm
  | k + 17, h => exact absurd h (by omega)
theorem blank_all : ∀ k, k < 17 → ∀ j, (h : j < txt.size) → posN k + (tks.getD k default).t.size ≤ j → j < posN (k + 1) → (txt[j]'h).toNat = 32 := by decide +kernel
theorem stop_all : ∀ k, k < 17 → ∀ h : posN (k + 1) < txt.size, (txt[posN (k + 1)]'h).toNat ≠ 32 ∧ (txt[posN (k + 1)]'h).toNat ≠ 9 ∧ (txt[posN (k + 1)]'h).toNat ≠ 13 ∧ (txt[posN (k + 1)]'h).toNat ≠ 10 ∧ (((txt.extract (posN (k + 1)) txt.size).extract 0 2).toList == (⟨#[45, 45]⟩ : ByteArray).toList) = false := by decide +kernel
theorem pos1_all : ∀ k, k < 17 → posN k < posN (k + 1) := by decide +kernel
theorem stop_0 : ∀ h : 0 < txt.size, (txt[0]'h).toNat ≠ 32 ∧ (txt[0]'h).toNat ≠ 9 ∧ (txt[0]'h).toNat ≠ 13 ∧ (txt[0]'h).toNat ≠ 10 ∧ (((txt.extract 0 txt.size).extract 0 2).toList == (⟨#[45, 45]⟩ : ByteArray).toList) = false := by decide +kernel
theorem pos_all : ∀ k, k < 17 → posN k + (tks.getD k default).t.size ≤ posN (k + 1) ∧ posN (k + 1) ≤ 52 ∧ posN k < 52 := by decide +kernel

theorem skip_all (k : Nat) (hk : k < 17) (w : World) : Calls Tryz.prog 118 #[.string txt, .int .i64 ((posN k + (tks.getD k default).t.size : Nat) : Int)] w fun e w' => e = .returned (.int .i64 (posN (k + 1) : Nat)) ∧ Below w.heap.size w w' :=
  skip_any txt _ _ w (by decide +kernel) (pos_all k hk).1 (by rw [txt_size]; exact (pos_all k hk).2.1) (fun j h h1 h2 => blank_all k hk j h h1 h2) (fun h => stop_all k hk h)
theorem skip_0 (w : World) : Calls Tryz.prog 118 #[.string txt, .int .i64 0] w fun e w' => e = .returned (.int .i64 0) ∧ Below w.heap.size w w' :=
  skip_any txt 0 0 w (by decide +kernel) (Nat.le_refl _) (by decide +kernel) (fun j h h1 h2 => absurd h2 (by omega)) (fun h => stop_0 h)

set_option maxRecDepth 10000 in
set_option maxHeartbeats 4000000 in
theorem Tokens_txt (m : Int) (w : World) (hm : w.cell? ⟨5, 0, none⟩ = some (.int .i64 m)) : Calls Tryz.prog 65 #[.string txt] w fun e w' => ∃ v, e = .returned (.tuple #[v, .int .i64 0, .int .i64 0]) ∧ OwnG tkL w' w.heap.size 149 v (tks ++ [⟨0, ⟨#[]⟩, 52⟩]) ∧ Below w.heap.size w w' := by
  have hsz := txt_size
  have hn := fun k hk W h => next_all k hk m W h
  have hsk := fun k hk W => skip_all k hk W
  have hp := hide pos_all
  have hpos1 := hide pos1_all
  have htl : tks.length = 17 := by kernel_rfl
  have hd : ∀ k, k < 17 → (tks.getD k default).p = (posN k : Int) := by decide +kernel
  have hts : ∀ k, k < 17 → (tks.getD k default).t.size ≤ 10 := by decide +kernel
  have hs0 := fun W => skip_0 W
  obtain ⟨s, hs⟩ : ∃ s, s = txt := ⟨_, rfl⟩
  rw [← hs] at hsz hn hsk hs0
  rw [← hs]
  have hszI : (s.size : Int) = 52 := by omega
  have hp0 : posN 0 = 0 := rfl
  have hpN : posN 17 = 52 := by kernel_rfl
  replace hs := hide hs
  replace hd := hide hd
  replace hts := hide hts
  replace htl := hide htl
  replace hp0 := hide hp0
  replace hpN := hide hpN
  go_enter Tryz.func65, Tryz.ntmps65
  go_wp2_with fail
  refine (hs0 w).mono ?_
  rintro e w1 ⟨rfl, hb1⟩
  clear hs0
  go_wp2_with fail
  go_loopw [5, 6] (fun t5 t6 wr => ∃ k : Nat, k ≤ 17 ∧ t6 = .int .i64 (posN k : Nat) ∧ OwnG tkL wr w.heap.size 149 t5 (tks.take k) ∧ Below w.heap.size w wr) (fun _ t6 _ => 52 - (intOf t6).toNat)
  case atStart => exact ⟨0, Nat.zero_le _, by rw [hp0.out]; rfl, OwnG.nil _ _ _ _, hb1⟩
  case round =>
    clear hb1
    obtain ⟨k, hk, rfl, ow, hB⟩ := hrel
    by_cases hlt : k < 17
    · obtain ⟨p1, p2, p3⟩ := hp.out k hlt
      have p3I : (posN k : Int) < 52 := by omega
      have hnk := hn k hlt wr (cell_below hB hm)
      have hskk := hsk k hlt
      have htk : Hid (tks.take (k + 1) = tks.take k ++ [tks.getD k default]) := hide (take_succ_getD _ default (by rw [htl.out]; exact hlt))
      have hdk := hd.out k hlt
      have hsz10 := hts.out k hlt
      rw [hdk] at hnk
      rw [Int.natCast_add] at hskk
      have htkl : (tks.take k).length ≤ 20 := by rw [List.length_take, htl.out]; omega
      obtain ⟨d, hdd⟩ : ∃ d, d = tks.getD k default := ⟨_, rfl⟩
      rw [← hdd] at hnk hskk htk hsz10 hdk p1
      obtain ⟨a, haa⟩ : ∃ a, a = posN k := ⟨_, rfl⟩
      rw [← haa] at hnk hskk p1 p3 p3I hdk
      rw [← haa]
      obtain ⟨a2, ha2⟩ : ∃ a2, a2 = posN (k + 1) := ⟨_, rfl⟩
      rw [← ha2] at hskk p1 p2
      have hinc : a < a2 := by rw [haa, ha2]; exact hpos1.out k hlt
      replace hdd := hide hdd
      replace haa := hide haa
      replace ha2 := hide ha2
      replace hdk := hide hdk
      have hszI10 : (d.t.size : Int) ≤ 10 := by omega
      go_wp2_with fail
      refine hnk.mono ?_
      rintro e w2 ⟨rfl, hb2⟩
      have ow2 := ow.mono hb2
      have hB2 := below2 hB hb2
      have hz2 := hB2.size
      have hnb := ownG_nb ow2
      clear hnk ow hb2
      unfold tokV
      go_wp2_with (at_builtin; refine wpList_appG _ tkL (tks.take k) [d] rfl _ _ 143 rfl w.heap.size 149 (.agg #[.int .i64 0, .string ⟨#[]⟩, .int .u64 0, .int .i64 0]) 40 Tryz.underlying143 Tryz.infoTk rfl (by decide) _ 1 1 (some ⟨_, 0, none⟩) rfl rfl rfl ((ow2.alloc _).alloc _) (SlG.one (Blk.newAt (by simp)) (by show [_, _, _, _] = tkV d; unfold tkV; rw [hdk.out])) (by simp; omega) (by simp; omega) ?_; intro v' w' own' hg'; refine Hold.mk ?_)
      refine Hold.go ?_
      have gt : Blk w' w2.heap.size #[.int .i64 d.k, .string d.t, .int .u64 0, .int .i64 a] 149 := hg'.blk ((Blk.new _ _ _).alloc _) hnb
      have kA : KX XTk w.heap.size w2 w' := (KX.of_below (((Below.refl _ _).alloc (Nat.le_refl _) _).alloc (by simp) _) hz2).trans (KX.grew ((ow2.alloc _).alloc _) hg' rfl (by simp; omega))
      have hB3 := hB2.trans kA.below
      rw [← htk.out] at own'
      have y1 := gt.cell (j := 1) (v := .string d.t) rfl
      clear ow2 hg' gt kA hB2 hnb
      go_wp2_with fail
      refine (hskk w').mono ?_
      rintro e w4 ⟨rfl, hb4⟩
      have hB4 := below2 hB3 hb4
      have ow4 := own'.mono hb4
      clear own' hB3 hb4 y1 hskk
      go_wp2
      go_roundw
      case rel => exact ⟨k + 1, by omega, by rw [ha2.out], ow4, hB4⟩
      case measure => simp [intOf]; omega
    · obtain rfl : k = 17 := by omega
      rw [hpN.out]
      have hall : tks.take 17 = tks := List.take_of_length_le (by rw [htl.out]; exact Nat.le_refl _)
      rw [hall] at ow
      have hz := hB.size
      have htl2 : tks.length ≤ 20 := by rw [htl.out]; decide
      clear hall hn hsk
      go_wp2_with (at_builtin; refine wpList_appG _ tkL tks [⟨0, ⟨#[]⟩, 52⟩] rfl _ _ 143 rfl w.heap.size 149 (.agg #[.int .i64 0, .string ⟨#[]⟩, .int .u64 0, .int .i64 0]) 40 Tryz.underlying143 Tryz.infoTk rfl (by decide) _ 1 1 (some ⟨_, 0, none⟩) rfl rfl rfl (ow.alloc _) (SlG.one (Blk.newAt rfl) rfl) (by simp; omega) (by simp; omega) ?_; intro v' w' own' hg'; refine Hold.mk ?_)
      refine Hold.go ?_
      have kA : KX XTk w.heap.size wr w' := (KX.of_below ((Below.refl _ _).alloc (Nat.le_refl _) _) hz).trans (KX.grew (ow.alloc _) hg' rfl (by simp; omega))
      have hB3 := hB.trans kA.below
      clear kA hg' ow
      go_wp2
      exact bodyPost_ret (v := .tuple #[v', .int .i64 0, .int .i64 0]) (by simp [results, Tryz.results65, go_sem]) rfl ⟨v', rfl, own', hB3⟩


def XPr (T : TypeId) : Prop := T = 147
theorem fieldTk (k : Int) (t : ByteArray) (v p : Int) (W : World) : Sem.run Tryz.prog (Instr.field 149 (.agg #[.int .i64 k, .string t, .int .u64 v, .int .i64 p]) 1) W = .ok (.string t) W := by kernel_rfl
/-- A parser in block q that stands at token k of the list L. -/
structure PT (w0 w : World) (q g : Nat) (L : List Tk4) (k m c : Nat) : Prop where
  below : Below w0.heap.size w0 w
  lo : w0.heap.size ≤ q
  blk : Blk w q #[.slice (some ⟨g, k * 4, none⟩) m c, .int .i64 0, .int .i64 0, .int .i64 0, .int .i64 0, .bool false, .int .i64 0] 147
  tk : ∃ cs, Blk w g cs 149 ∧ ∀ i j u, i < L.length → (tkV (L.getD i default))[j]? = some u → cs[i * 4 + j]? = some u
  len : m + k = L.length
  pos : 1 ≤ m
  cap : m ≤ c
  mx : c ≤ 9223372036854775807
def PZ (w0 w : World) (q g : Nat) (L : List Tk4) (k : Nat) : Prop := ∃ m c, PT w0 w q g L k m c
section
variable {w0 w w' : World} {q g : Nat} {L : List Tk4} {k m c : Nat}
theorem PT.mono (h : PT w0 w q g L k m c) (hb : Below w.heap.size w w') : PT w0 w' q g L k m c :=
  ⟨below2 h.below hb, h.lo, h.blk.mono hb, by obtain ⟨cs, h1, h2⟩ := h.tk; exact ⟨cs, h1.mono hb, h2⟩, h.len, h.pos, h.cap, h.mx⟩
theorem PZ.mono (h : PZ w0 w q g L k) (hb : Below w.heap.size w w') : PZ w0 w' q g L k := by
  obtain ⟨m, c, h⟩ := h
  exact ⟨m, c, h.mono hb⟩
theorem PT.cell (h : PT w0 w q g L k m c) {i : Nat} (hi : i < L.length) {j : Nat} {u : Value} (hu : (tkV (L.getD i default))[j]? = some u) : w.cell? ⟨g, i * 4 + j, none⟩ = some u := by
  obtain ⟨cs, h1, h2⟩ := h.tk
  exact h1.cell (h2 i j u hi hu)
theorem PT.now (h : PT w0 w q g L k m c) : w.cell? ⟨g, k * 4, none⟩ = some (.int .i64 (L.getD k default).k) ∧ w.cell? ⟨g, k * 4 + 1, none⟩ = some (.string (L.getD k default).t) ∧ w.cell? ⟨g, k * 4 + 2, none⟩ = some (.int .u64 0) ∧ w.cell? ⟨g, k * 4 + 3, none⟩ = some (.int .i64 (L.getD k default).p) := by
  have hk : k < L.length := by have := h.len; have := h.pos; omega
  exact ⟨h.cell (j := 0) hk rfl, h.cell (j := 1) hk rfl, h.cell (j := 2) hk rfl, h.cell (j := 3) hk rfl⟩
theorem PT.size (h : PT w0 w q g L k m c) : w0.heap.size ≤ w.heap.size := h.below.size
/-- The step behind a token. -/
theorem PT.step (h : PT w0 w q g L k (m + 1) (c + 1)) (hm : 1 ≤ m) : PT w0 (w.setCell ⟨q, 0, none⟩ (.slice (some ⟨g, (k + 1) * 4, none⟩) m c)) q g L (k + 1) m c ∧ KX XPr w0.heap.size w (w.setCell ⟨q, 0, none⟩ (.slice (some ⟨g, (k + 1) * 4, none⟩) m c)) := by
  have kx := KX.set (X := XPr) (j := 0) (u := .slice (some ⟨g, (k + 1) * 4, none⟩) m c) h.blk rfl h.lo
  have h1 := h.len
  have h2 := h.cap
  have h3 := h.mx
  obtain ⟨cs, t1, t2⟩ := h.tk
  exact ⟨⟨h.below.trans kx.below, h.lo, h.blk.set 0 _, ⟨cs, kx.typ _ _ _ t1 (by unfold XPr; decide), t2⟩, by omega, hm, by omega, by omega⟩, kx⟩
/-- A parser stays when blocks of other types change. -/
theorem PZ.kx {X : TypeId → Prop} (h : PZ w0 w q g L k) (kx : KX X w0.heap.size w w') (x1 : ¬ X 147) (x2 : ¬ X 149) : PZ w0 w' q g L k := by
  obtain ⟨m, c, h⟩ := h
  obtain ⟨cs, t1, t2⟩ := h.tk
  exact ⟨m, c, h.below.trans kx.below, h.lo, kx.typ _ _ _ h.blk x1, ⟨cs, kx.typ _ _ _ t1 x2, t2⟩, h.len, h.pos, h.cap, h.mx⟩
end

theorem KX.setN {X : TypeId → Prop} {base b j : Nat} {w W : World} {u : Value} (k : KX X base w W) (hb : w.heap.size ≤ b) (h0 : base ≤ w.heap.size) : KX X base w (W.setCell ⟨b, j, none⟩ u) :=
  ⟨k.below.setCell (show base ≤ b by omega) _, fun b' cs T g h => (k.typ b' cs T g h).other (fun e => by have := g.lt; omega) _ _⟩
theorem PZ.setN {w0 W : World} {q g k b j : Nat} {L : List Tk4} {u : Value} (h : PZ w0 W q g L k) (h0 : w0.heap.size ≤ b) (hq : b ≠ q) (hg : b ≠ g) : PZ w0 (W.setCell ⟨b, j, none⟩ u) q g L k := by
  obtain ⟨m, c, h⟩ := h
  obtain ⟨cs, t1, t2⟩ := h.tk
  exact ⟨m, c, h.below.setCell (show w0.heap.size ≤ b from h0) _, h.lo, h.blk.other hq _ _, ⟨cs, t1.other hg _ _, t2⟩, h.len, h.pos, h.cap, h.mx⟩
theorem at_any {w0 w : World} {q g k : Nat} {L : List Tk4} (h : PZ w0 w q g L k) (s : ByteArray) (hk : (L.getD k default).k ≠ 0) (b : Bool) (hb : ((L.getD k default).t.toList == s.toList) = b) :
    Calls Tryz.prog 27 #[.pointer (some ⟨q, 0, none⟩), .string s] w fun e w' => e = .returned (.bool b) ∧ Below w.heap.size w w' := by
  obtain ⟨m, c, h⟩ := h
  obtain ⟨n0, n1, _, _⟩ := h.now
  have k0 := h.blk.cell (j := 0) (v := .slice (some ⟨g, k * 4, none⟩) m c) rfl
  have hm := h.pos
  have hrefl := Below.refl w.heap.size w
  generalize L.getD k default = d at *
  have hkB : (d.k == 0) = false := by rw [beq_eq_false_iff_ne]; exact hk
  go_enter Tryz.func27, Tryz.ntmps27
  go_wp2
  go_ret
  exact ⟨by simp [hk], hrefl⟩

set_option maxHeartbeats 4000000 in
theorem take_any {w0 w : World} {q g k : Nat} {L : List Tk4} (h : PZ w0 w q g L k) (hk : k + 1 < L.length) :
    Calls Tryz.prog 74 #[.pointer (some ⟨q, 0, none⟩)] w fun e w' => e = .returned (tokV (L.getD k default).k (L.getD k default).t (L.getD k default).p) ∧ PZ w0 w' q g L (k + 1) ∧ KX XPr w0.heap.size w w' := by
  obtain ⟨m, c, h⟩ := h
  obtain ⟨m, rfl⟩ : ∃ m', m = m' + 1 := ⟨m - 1, by have := h.pos; omega⟩
  obtain ⟨c, rfl⟩ : ∃ c', c = c' + 1 := ⟨c - 1, by have := h.cap; omega⟩
  have hm1 : 1 ≤ m := by have := h.len; omega
  have hmI : (1 : Int) < (m : Int) + 1 := by omega
  have hcap := h.cap
  have hmx := h.mx
  have hsz := h.size
  obtain ⟨n0, n1, n2, n3⟩ := h.now
  obtain ⟨d, hd⟩ : ∃ d, L.getD k default = d := ⟨_, rfl⟩
  rw [hd] at n0 n1 n3
  rw [hd]
  replace hd := hide hd
  obtain ⟨A, hA⟩ : ∃ A, A = Obj.cells #[.int .i64 0, .string ⟨#[]⟩, .int .u64 0, .int .i64 0] 149 := ⟨_, rfl⟩
  obtain ⟨B, hB⟩ : ∃ B, B = Obj.cells #[.int .i64 d.k, .string d.t, .int .u64 0, .int .i64 d.p] 149 := ⟨_, rfl⟩
  have b1 : Below w.heap.size w (w.alloc A) := (Below.refl _ _).alloc (Nat.le_refl _) _
  have b2 : Below w.heap.size w ((w.alloc A).alloc B) := b1.alloc (by simp) _
  have hP := h.mono b2
  have m0 := cell_below b1 n0; have m1 := cell_below b1 n1; have m2 := cell_below b1 n2; have m3 := cell_below b1 n3
  have q1 := (h.mono b1).blk.cell (j := 0) (v := .slice (some ⟨g, k * 4, none⟩) (m + 1) (c + 1)) rfl
  have q2 := hP.blk.cell (j := 0) (v := .slice (some ⟨g, k * 4, none⟩) (m + 1) (c + 1)) rfl
  have qf := hP.blk.free 0
  have gS : Blk ((w.alloc A).alloc B) (w.heap.size + 1) #[.int .i64 d.k, .string d.t, .int .u64 0, .int .i64 d.p] 149 := by rw [hB]; exact Blk.newAt (by simp)
  have gR : Blk ((w.alloc A).alloc B) w.heap.size #[.int .i64 0, .string ⟨#[]⟩, .int .u64 0, .int .i64 0] 149 := by rw [hA]; exact (Blk.new _ _ _).alloc _
  obtain ⟨hS, kS⟩ := hP.step hm1
  have hPS0 : PZ w0 _ q g L (k + 1) := ⟨m, c, hS⟩
  rw [show (k + 1) * 4 = k * 4 + 4 by omega] at hPS0 kS
  have hq1 : w.heap.size + 1 ≠ q := by have := h.blk.lt; omega
  have hq0 : w.heap.size ≠ q := by have := h.blk.lt; omega
  replace gS := gS.other (Ne.symm hq1) 0 (.slice (some ⟨g, k * 4 + 4, none⟩) m c)
  replace gR := gR.other (Ne.symm hq0) 0 (.slice (some ⟨g, k * 4 + 4, none⟩) m c)
  have s0 := gS.cell (j := 0) (v := .int .i64 d.k) rfl; have s1 := gS.cell (j := 1) (v := .string d.t) rfl; have s2 := gS.cell (j := 2) (v := .int .u64 0) rfl; have s3 := gS.cell (j := 3) (v := .int .i64 d.p) rfl
  have r0 := gR.cell (j := 0) (v := .int .i64 0) rfl; have r1 := gR.cell (j := 1) (v := .string ⟨#[]⟩) rfl; have r2 := gR.cell (j := 2) (v := .int .u64 0) rfl; have r3 := gR.cell (j := 3) (v := .int .i64 0) rfl
  have rf := gR.free
  have gF := (((gR.set 0 (.int .i64 d.k)).set 1 (.string d.t)).set 2 (.int .u64 0)).set 3 (.int .i64 d.p)
  have y0 := gF.cell (j := 0) (v := .int .i64 d.k) rfl; have y1 := gF.cell (j := 1) (v := .string d.t) rfl; have y2 := gF.cell (j := 2) (v := .int .u64 0) rfl; have y3 := gF.cell (j := 3) (v := .int .i64 d.p) rfl
  have kF := (KX.of_below b2 hsz).trans kS
  have hg0 : w.heap.size ≠ g := by
    obtain ⟨cs, t1, _⟩ := h.tk
    have := t1.lt
    omega
  have kR := (((kF.setN (b := w.heap.size) (j := 0) (u := .int .i64 d.k) (Nat.le_refl _) hsz).setN (b := w.heap.size) (j := 1) (u := .string d.t) (Nat.le_refl _) hsz).setN (b := w.heap.size) (j := 2) (u := .int .u64 0) (Nat.le_refl _) hsz).setN (b := w.heap.size) (j := 3) (u := .int .i64 d.p) (Nat.le_refl _) hsz
  have hPS := (((hPS0.setN (b := w.heap.size) (j := 0) (u := .int .i64 d.k) hsz hq0 hg0).setN (b := w.heap.size) (j := 1) (u := .string d.t) hsz hq0 hg0).setN (b := w.heap.size) (j := 2) (u := .int .u64 0) hsz hq0 hg0).setN (b := w.heap.size) (j := 3) (u := .int .i64 d.p) hsz hq0 hg0
  rw [hA] at q1 m0 m1 m2 m3
  rw [hA, hB] at q2 qf
  go_enter Tryz.func74, Tryz.ntmps74
  go_wp2
  rw [← hA, ← hB]
  exact bodyPost_ret (v := tokV d.k d.t d.p) (by simp [results, Tryz.results74, go_sem, tokV, y0, y1, y2, y3]) rfl ⟨rfl, hPS, kR⟩

def RetPZ (w0 w : World) (q g : Nat) (L : List Tk4) (k : Nat) (v : Value) (e : Ending) (w' : World) : Prop := e = .returned v ∧ PZ w0 w' q g L k ∧ KX XPr w0.heap.size w w'
set_option maxHeartbeats 1600000 in
theorem accept_yes {w0 w : World} {q g k : Nat} {L : List Tk4} (h : PZ w0 w q g L k) (s : ByteArray) (hk : k + 1 < L.length) (hkd : (L.getD k default).k ≠ 0) (hb : ((L.getD k default).t.toList == s.toList) = true) :
    Calls Tryz.prog 69 #[.pointer (some ⟨q, 0, none⟩), .string s] w (RetPZ w0 w q g L (k + 1) (.bool true)) := by
  have hz : w0.heap.size ≤ w.heap.size := by obtain ⟨m, c, h⟩ := h; exact h.size
  have cA := fun W h => at_any (w0 := w0) (w := W) (q := q) (g := g) h s hkd true hb
  clear hkd hb
  go_enter Tryz.func69, Tryz.ntmps69
  go_wp2_with fail
  refine (cA w h).mono ?_
  rintro e w1 ⟨rfl, hb1⟩
  have h1 := h.mono hb1
  go_wp2_with fail
  refine (take_any h1 hk).mono ?_
  rintro e w2 ⟨rfl, h2, k2⟩
  clear cA
  go_wp2
  go_ret
  exact ⟨rfl, h2, (KX.of_below hb1 hz).trans k2⟩
set_option maxHeartbeats 1600000 in
theorem accept_no {w0 w : World} {q g k : Nat} {L : List Tk4} (h : PZ w0 w q g L k) (s : ByteArray) (hkd : (L.getD k default).k ≠ 0) (hb : ((L.getD k default).t.toList == s.toList) = false) :
    Calls Tryz.prog 69 #[.pointer (some ⟨q, 0, none⟩), .string s] w fun e w' => e = .returned (.bool false) ∧ Below w.heap.size w w' := by
  have cA := fun W h => at_any (w0 := w0) (w := W) (q := q) (g := g) h s hkd false hb
  clear hkd hb
  go_enter Tryz.func69, Tryz.ntmps69
  go_wp2_with fail
  refine (cA w h).mono ?_
  rintro e w1 ⟨rfl, hb1⟩
  go_wp2
  go_ret
  exact ⟨rfl, hb1⟩
set_option maxHeartbeats 1600000 in
theorem expect_any {w0 w : World} {q g k : Nat} {L : List Tk4} (h : PZ w0 w q g L k) (s : ByteArray) (hk : k + 1 < L.length) (hkd : (L.getD k default).k ≠ 0) (hb : ((L.getD k default).t.toList == s.toList) = true) :
    Calls Tryz.prog 66 #[.pointer (some ⟨q, 0, none⟩), .string s] w (RetPZ w0 w q g L (k + 1) (.tuple #[])) := by
  have cA := accept_yes h s hk hkd hb
  clear hkd hb
  go_enter Tryz.func66, Tryz.ntmps66
  go_wp2_with fail
  refine cA.mono ?_
  rintro e w1 ⟨rfl, h1, k1⟩
  go_wp2
  exact bodyPost_ret (v := .tuple #[]) (by simp [results, Tryz.results66, go_sem]) rfl ⟨rfl, h1, k1⟩
set_option maxRecDepth 10000 in
set_option maxHeartbeats 1600000 in
theorem name_any {w0 w : World} {q g k : Nat} {L : List Tk4} (h : PZ w0 w q g L k) (hk : k + 1 < L.length) (hkd : (L.getD k default).k = 1) :
    Calls Tryz.prog 67 #[.pointer (some ⟨q, 0, none⟩)] w (RetPZ w0 w q g L (k + 1) (.string (L.getD k default).t)) := by
  have cT := take_any h hk
  obtain ⟨m, c, h⟩ := h
  obtain ⟨n0, _, _, _⟩ := h.now
  have k0 := h.blk.cell (j := 0) (v := .slice (some ⟨g, k * 4, none⟩) m c) rfl
  have hm := h.pos
  rw [hkd] at n0
  generalize L.getD k default = d at *
  have hf := fun W => fieldTk d.k d.t 0 d.p W
  clear hkd
  go_enter Tryz.func67, Tryz.ntmps67
  go_wp2_with fail
  refine cT.mono ?_
  rintro e w1 ⟨rfl, h1, k1⟩
  unfold tokV
  go_wp2
  go_ret
  exact ⟨rfl, h1, k1⟩

theorem xpTy : ¬ XPr 32 := by unfold XPr; decide
theorem xpDe : ¬ XPr 34 := by unfold XPr; decide
theorem PZ.size {w0 w : World} {q g k : Nat} {L : List Tk4} (h : PZ w0 w q g L k) : w0.heap.size ≤ w.heap.size := by
  obtain ⟨m, c, h⟩ := h
  exact h.size
theorem PZ.lts {w0 w : World} {q g k : Nat} {L : List Tk4} (h : PZ w0 w q g L k) : q < w.heap.size ∧ g < w.heap.size := by
  obtain ⟨m, c, h⟩ := h
  obtain ⟨cs, t1, _⟩ := h.tk
  exact ⟨h.blk.lt, t1.lt⟩
set_option maxRecDepth 10000 in
set_option maxHeartbeats 4000000 in
theorem readType_any {w0 w : World} {q g k : Nat} {L : List Tk4} (h : PZ w0 w q g L k) (hk : k + 1 < L.length) (h0 : (L.getD k default).k ≠ 0) (hf : ((L.getD k default).t.toList == (⟨#[102, 105, 101, 108, 100]⟩ : ByteArray).toList) = true) (h1 : (L.getD (k + 1) default).k ≠ 0) (hn : ((L.getD (k + 1) default).t.toList == (⟨#[91]⟩ : ByteArray).toList) = false) :
    Calls Tryz.prog 70 #[.pointer (some ⟨q, 0, none⟩)] w (RetPZ w0 w q g L (k + 1) (.agg #[.int .i64 1, .int .i64 0, .int .i64 0])) := by
  have cA := fun W h => accept_yes (w0 := w0) (w := W) (q := q) (g := g) h ⟨#[102, 105, 101, 108, 100]⟩ hk h0 hf
  have cN := fun W h => accept_no (w0 := w0) (w := W) (q := q) (g := g) h ⟨#[91]⟩ h1 hn
  have hz := h.size
  have hlt := h.lts
  clear h0 hf h1 hn
  go_enter Tryz.func70, Tryz.ntmps70
  go_wp2_with fail
  refine name_calls fun W hN => ?_
  have hbW : Below w.heap.size w W := by rw [hN]; exact ((Below.refl _ _).alloc (Nat.le_refl _) _).alloc (by simp) _
  have gA : Blk W w.heap.size #[.int .i64 0, .int .i64 0, .int .i64 0] 32 := by rw [hN]; exact (Blk.newAt rfl).alloc _
  have gB : Blk W (w.heap.size + 1) #[.int .i64 0, .int .i64 0, .int .i64 0] 32 := by rw [hN]; exact Blk.newAt (by simp)
  clear hN
  refine (cA W (h.mono hbW)).mono ?_
  rintro e w1 ⟨rfl, p1, k1⟩
  replace gA := k1.typ _ _ _ gA xpTy
  replace gB := k1.typ _ _ _ gB xpTy
  have kx := (KX.of_below hbW hz).trans k1
  clear cA hbW k1
  have b0 := gB.cell (j := 0) (v := .int .i64 0) rfl
  have bf := gB.free
  have gB1 := gB.set 0 (.int .i64 1)
  have p2 := p1.setN (b := w.heap.size + 1) (j := 0) (u := .int .i64 1) (by omega) (by omega) (by omega)
  have kx2 := kx.setN (b := w.heap.size + 1) (j := 0) (u := .int .i64 1) (by omega) hz
  have gA1 := gA.other (b := w.heap.size) (c := w.heap.size + 1) (by omega) 0 (.int .i64 1)
  go_wp2_with fail
  clear b0 bf gB gA p1 kx
  refine (cN _ p2).mono ?_
  rintro e w3 ⟨rfl, hb3⟩
  replace gA1 := gA1.mono hb3
  replace gB1 := gB1.mono hb3
  have p3 := p2.mono hb3
  have kx3 := kx2.trans (KX.of_below hb3 p2.size)
  clear p2 kx2 hb3 cN
  have y0 := gB1.cell (j := 0) (v := .int .i64 1) rfl; have y1 := gB1.cell (j := 1) (v := .int .i64 0) rfl; have y2 := gB1.cell (j := 2) (v := .int .i64 0) rfl
  have a0 := gA1.cell (j := 0) (v := .int .i64 0) rfl; have a1 := gA1.cell (j := 1) (v := .int .i64 0) rfl; have a2 := gA1.cell (j := 2) (v := .int .i64 0) rfl
  have af := gA1.free
  have gF := ((gA1.set 0 (.int .i64 1)).set 1 (.int .i64 0)).set 2 (.int .i64 0)
  have z0 := gF.cell (j := 0) (v := .int .i64 1) rfl; have z1 := gF.cell (j := 1) (v := .int .i64 0) rfl; have z2 := gF.cell (j := 2) (v := .int .i64 0) rfl
  have pF := ((p3.setN (b := w.heap.size) (j := 0) (u := .int .i64 1) hz (by omega) (by omega)).setN (b := w.heap.size) (j := 1) (u := .int .i64 0) hz (by omega) (by omega)).setN (b := w.heap.size) (j := 2) (u := .int .i64 0) hz (by omega) (by omega)
  have kF := ((kx3.setN (b := w.heap.size) (j := 0) (u := .int .i64 1) (Nat.le_refl _) hz).setN (b := w.heap.size) (j := 1) (u := .int .i64 0) (Nat.le_refl _) hz).setN (b := w.heap.size) (j := 2) (u := .int .i64 0) (Nat.le_refl _) hz
  clear gB1 gA1 p3 kx3
  go_wp2
  exact bodyPost_ret (v := .agg #[.int .i64 1, .int .i64 0, .int .i64 0]) (by simp [results, Tryz.results70, go_sem, z0, z1, z2]) rfl ⟨rfl, pF, kF⟩

set_option maxRecDepth 10000 in
set_option maxHeartbeats 4000000 in
theorem decl_any {w0 w : World} {q g k : Nat} {L : List Tk4} (h : PZ w0 w q g L k) (hk : k + 5 < L.length) (b : Bool) (hb : ((L.getD k default).t.toList == [112, 117, 98, 108, 105, 99]) = b) (h1 : (L.getD (k + 1) default).k = 1)
    (h2 : (L.getD (k + 2) default).k ≠ 0) (e2 : ((L.getD (k + 2) default).t.toList == (⟨#[58]⟩ : ByteArray).toList) = true)
    (h3 : (L.getD (k + 3) default).k ≠ 0) (e3 : ((L.getD (k + 3) default).t.toList == (⟨#[102, 105, 101, 108, 100]⟩ : ByteArray).toList) = true)
    (h4 : (L.getD (k + 4) default).k ≠ 0) (e4 : ((L.getD (k + 4) default).t.toList == (⟨#[91]⟩ : ByteArray).toList) = false) (e5 : ((L.getD (k + 4) default).t.toList == (⟨#[59]⟩ : ByteArray).toList) = true) :
    Calls Tryz.prog 29 #[.pointer (some ⟨q, 0, none⟩)] w (RetPZ w0 w q g L (k + 5) (.agg #[.bool b, .string (L.getD (k + 1) default).t, .int .i64 1, .int .i64 0, .int .i64 0])) := by
  have cT := fun W h => take_any (w0 := w0) (w := W) (q := q) (g := g) (L := L) (k := k) h (by omega)
  have cN := fun W h => name_any (w0 := w0) (w := W) (q := q) (g := g) (L := L) (k := k + 1) h (by omega) h1
  have cC := fun W h => expect_any (w0 := w0) (w := W) (q := q) (g := g) (L := L) (k := k + 2) h ⟨#[58]⟩ (by omega) h2 e2
  have cR := fun W h => readType_any (w0 := w0) (w := W) (q := q) (g := g) (L := L) (k := k + 3) h (by omega) h3 e3 h4 e4
  have cS := fun W h => expect_any (w0 := w0) (w := W) (q := q) (g := g) (L := L) (k := k + 4) h ⟨#[59]⟩ (by omega) h4 e5
  have hz := h.size
  have hlt := h.lts
  obtain ⟨d, hd⟩ : ∃ d, L.getD k default = d := ⟨_, rfl⟩
  rw [hd] at cT hb
  obtain ⟨n, hn⟩ : ∃ n, (L.getD (k + 1) default).t = n := ⟨_, rfl⟩
  rw [hn] at cN
  rw [hn]
  have hf := fun W => fieldTk d.k d.t 0 d.p W
  replace hd := hide hd
  replace hn := hide hn
  clear h1 h2 e2 h3 e3 h4 e4 e5
  go_enter Tryz.func29, Tryz.ntmps29
  go_wp2_with fail
  refine name_calls fun W hN => ?_
  have hbW : Below w.heap.size w W := by rw [hN]; exact (Below.refl _ _).alloc (Nat.le_refl _) _
  have hWz : W.heap.size = w.heap.size + 1 := by rw [hN]; simp
  have gA : Blk W w.heap.size #[.bool false, .string ⟨#[]⟩, .int .i64 0, .int .i64 0, .int .i64 0] 34 := by rw [hN]; exact Blk.newAt rfl
  clear hN
  refine (cT W (h.mono hbW)).mono ?_
  rintro e w1 ⟨rfl, p1, k1⟩
  unfold tokV
  have kx := (KX.of_below hbW hz).trans k1
  replace gA := k1.typ _ _ _ gA xpDe
  clear cT hbW k1
  go_wp2_with fail
  refine name_calls fun V hN => ?_
  have hbV : Below w1.heap.size w1 V := by rw [hN]; exact (Below.refl _ _).alloc (Nat.le_refl _) _
  have hz1 := kx.below.size
  have hw1 : w.heap.size < w1.heap.size := gA.lt
  have gB : Blk V w1.heap.size #[.bool b, .string ⟨#[]⟩, .int .i64 0, .int .i64 0, .int .i64 0] 34 := by rw [hN]; exact Blk.newAt rfl
  have hlt1 := p1.lts
  clear hN
  replace gA := gA.mono hbV
  replace kx := kx.trans (KX.of_below hbV p1.size)
  refine (cN V (p1.mono hbV)).mono ?_
  rintro e w2 ⟨rfl, p2, k2⟩
  replace gA := k2.typ _ _ _ gA xpDe
  replace gB := k2.typ _ _ _ gB xpDe
  replace kx := kx.trans k2
  clear cN hbV k2 p1
  have b1 := gB.cell (j := 1) (v := .string ⟨#[]⟩) rfl
  have bf := gB.free
  have gB2 := gB.set 1 (.string n)
  have gA2 := gA.other (b := w.heap.size) (c := w1.heap.size) (by omega) 1 (.string n)
  have p3 := p2.setN (b := w1.heap.size) (j := 1) (u := .string n) (by omega) (by omega) (by omega)
  have kx3 := kx.setN (b := w1.heap.size) (j := 1) (u := .string n) (by omega) hz
  go_wp2_with fail
  clear gA gB p2 kx b1 bf
  refine (cC _ p3).mono ?_
  rintro e w4 ⟨rfl, p4, k4⟩
  replace gA2 := k4.typ _ _ _ gA2 xpDe
  replace gB2 := k4.typ _ _ _ gB2 xpDe
  replace kx3 := kx3.trans k4
  clear cC k4 p3
  go_wp2_with fail
  refine (cR _ p4).mono ?_
  rintro e w5 ⟨rfl, p5, k5⟩
  replace gA2 := k5.typ _ _ _ gA2 xpDe
  replace gB2 := k5.typ _ _ _ gB2 xpDe
  replace kx3 := kx3.trans k5
  clear cR k5 p4
  have b2 := gB2.cell (j := 2) (v := .int .i64 0) rfl; have b3 := gB2.cell (j := 3) (v := .int .i64 0) rfl; have b4 := gB2.cell (j := 4) (v := .int .i64 0) rfl
  have bf := gB2.free
  have gB6 := ((gB2.set 2 (.int .i64 1)).set 3 (.int .i64 0)).set 4 (.int .i64 0)
  have gA6 := ((gA2.other (b := w.heap.size) (c := w1.heap.size) (by omega) 2 (.int .i64 1)).other (b := w.heap.size) (c := w1.heap.size) (by omega) 3 (.int .i64 0)).other (b := w.heap.size) (c := w1.heap.size) (by omega) 4 (.int .i64 0)
  have p6 := ((p5.setN (b := w1.heap.size) (j := 2) (u := .int .i64 1) (by omega) (by omega) (by omega)).setN (b := w1.heap.size) (j := 3) (u := .int .i64 0) (by omega) (by omega) (by omega)).setN (b := w1.heap.size) (j := 4) (u := .int .i64 0) (by omega) (by omega) (by omega)
  have kx6 := ((kx3.setN (b := w1.heap.size) (j := 2) (u := .int .i64 1) (by omega) hz).setN (b := w1.heap.size) (j := 3) (u := .int .i64 0) (by omega) hz).setN (b := w1.heap.size) (j := 4) (u := .int .i64 0) (by omega) hz
  go_wp2_with fail
  clear gA2 gB2 p5 kx3 b2 b3 b4 bf
  refine (cS _ p6).mono ?_
  rintro e w7 ⟨rfl, p7, k7⟩
  replace gA6 := k7.typ _ _ _ gA6 xpDe
  replace gB6 := k7.typ _ _ _ gB6 xpDe
  replace kx6 := kx6.trans k7
  clear cS k7 p6
  have y0 := gB6.cell (j := 0) (v := .bool b) rfl; have y1 := gB6.cell (j := 1) (v := .string n) rfl; have y2 := gB6.cell (j := 2) (v := .int .i64 1) rfl; have y3 := gB6.cell (j := 3) (v := .int .i64 0) rfl; have y4 := gB6.cell (j := 4) (v := .int .i64 0) rfl
  have a0 := gA6.cell (j := 0) (v := .bool false) rfl; have a1 := gA6.cell (j := 1) (v := .string ⟨#[]⟩) rfl; have a2 := gA6.cell (j := 2) (v := .int .i64 0) rfl; have a3 := gA6.cell (j := 3) (v := .int .i64 0) rfl; have a4 := gA6.cell (j := 4) (v := .int .i64 0) rfl
  have af := gA6.free
  have gF := ((((gA6.set 0 (.bool b)).set 1 (.string n)).set 2 (.int .i64 1)).set 3 (.int .i64 0)).set 4 (.int .i64 0)
  have z0 := gF.cell (j := 0) (v := .bool b) rfl; have z1 := gF.cell (j := 1) (v := .string n) rfl; have z2 := gF.cell (j := 2) (v := .int .i64 1) rfl; have z3 := gF.cell (j := 3) (v := .int .i64 0) rfl; have z4 := gF.cell (j := 4) (v := .int .i64 0) rfl
  have pF := ((((p7.setN (b := w.heap.size) (j := 0) (u := .bool b) hz (by omega) (by omega)).setN (b := w.heap.size) (j := 1) (u := .string n) hz (by omega) (by omega)).setN (b := w.heap.size) (j := 2) (u := .int .i64 1) hz (by omega) (by omega)).setN (b := w.heap.size) (j := 3) (u := .int .i64 0) hz (by omega) (by omega)).setN (b := w.heap.size) (j := 4) (u := .int .i64 0) hz (by omega) (by omega)
  have kF := ((((kx6.setN (b := w.heap.size) (j := 0) (u := .bool b) (Nat.le_refl _) hz).setN (b := w.heap.size) (j := 1) (u := .string n) (Nat.le_refl _) hz).setN (b := w.heap.size) (j := 2) (u := .int .i64 1) (Nat.le_refl _) hz).setN (b := w.heap.size) (j := 3) (u := .int .i64 0) (Nat.le_refl _) hz).setN (b := w.heap.size) (j := 4) (u := .int .i64 0) (Nat.le_refl _) hz
  clear gB6 gA6 p7 kx6
  go_wp2
  exact bodyPost_ret (v := .agg #[.bool b, .string n, .int .i64 1, .int .i64 0, .int .i64 0]) (by simp [results, Tryz.results29, go_sem, z0, z1, z2, z3, z4]) rfl ⟨rfl, pF, kF⟩
end Go.Proofs.YtalmgeefkcebdaaGreatDoor

