/- Circuits: a circuit without its last hint and its rows, in plain Lean. -/
import Derived.Test.YtlflkddgdbdebaaCircH
namespace Go.Proofs.Ytlflkddgdbdebaa
open Go.RowKit

theorem cut_run {p pub vars sec : Int} {R : List Rw} {H : List Hn} {u s : List Int} {n : Nat} (h : runOk p pub vars R sec H u s = true) (hn : H.length = n + 1) : runOk p pub (vars - 1) [] sec (H.take n) u s = true := by
  unfold runOk at h ⊢
  rw [Bool.and_eq_true] at h ⊢
  refine ⟨?_, h.2⟩
  obtain ⟨hT, hs0, hv, hok⟩ := cir_bd h.1
  obtain ⟨hvp, hp0, hp1, hp2, _⟩ := tbl_bd hT
  have hl : (H.take n).length = n := by rw [List.length_take]; omega
  refine decide_eq_true ⟨decide_eq_true ⟨⟨hvp, hp0, by omega, by omega⟩, by simp, fun i hi => by simp at hi⟩, hs0, by rw [hl]; omega, fun i hi => ?_⟩
  rw [hl] at hi
  have := hok i (by omega)
  rwa [show (H.take n).getD i default = H.getD i default by rw [List.getD_eq_getElem?_getD, List.getD_eq_getElem?_getD, List.getElem?_take_of_lt (by omega)]]

theorem asn_run {p pub vars sec : Int} {R : List Rw} {H : List Hn} {u s : List Int} (h : runOk p pub vars R sec H u s = true) : asnOk p vars (runH p (1 :: (u ++ s)) H) = true := by
  unfold runOk at h
  rw [Bool.and_eq_true] at h
  obtain ⟨hT, hs0, hv, hok⟩ := cir_bd h.1
  obtain ⟨hvp, hp0, hp1, hp2, _⟩ := tbl_bd hT
  have hin := of_decide_eq_true h.2
  have hp := vld_pos hvp
  have hl := runH_len p (1 :: (u ++ s)) H
  rw [List.length_cons, List.length_append] at hl
  refine decide_eq_true ⟨by omega, ?_, fun i hi => ?_⟩
  · obtain ⟨X, hX⟩ := runH_pre p (1 :: (u ++ s)) H
    rw [hX]; rfl
  · refine runH_mem (Q := fun x => x < p) (fun W h => hval_lt hvp W h) (W := 1 :: (u ++ s)) (fun x hx => ?_) H _ (getD_mem' hi 0)
    rcases List.mem_cons.1 hx with e | e
    · omega
    · rcases List.mem_append.1 e with e | e
      · obtain ⟨j, hj, rfl⟩ := List.mem_iff_getElem.1 e
        have := hin.2.2.1 j hj
        rwa [List.getD_eq_getElem?_getD, List.getElem?_eq_getElem hj] at this
      · obtain ⟨j, hj, rfl⟩ := List.mem_iff_getElem.1 e
        have := hin.2.2.2 j hj
        rwa [List.getD_eq_getElem?_getD, List.getElem?_eq_getElem hj] at this

theorem cut_all {p pub vars sec : Int} {R : List Rw} {H : List Hn} {u s : List Int} {n : Nat} (h : runOk p pub vars R sec H u s = true) (hn : H.length = n + 1) :
    ∃ N z, runL p pub vars R sec H u s = N ++ [z] ∧ runL p pub (vars - 1) [] sec (H.take n) u s = N ∧ runE p pub (vars - 1) [] sec (H.take n) u s = 0 ∧ satL p pub (vars - 1) [] sec (H.take n) u s = N ∧ satE p pub (vars - 1) [] sec (H.take n) u s = 0 := by
  have h2 := cut_run h hn
  obtain ⟨e1, e2⟩ := runE_of h2
  have eL : runL p pub vars R sec H u s = runH p (1 :: (u ++ s)) H := by unfold runL; rw [h, if_pos rfl]
  have eL2 : runL p pub (vars - 1) [] sec (H.take n) u s = runH p (1 :: (u ++ s)) (H.take n) := by unfold runL; rw [h2, if_pos rfl]
  have hst := runH_step p (1 :: (u ++ s)) H (k := n) (by omega)
  rw [← hn, List.take_length] at hst
  have hsat : satOk p pub (vars - 1) [] (runH p (1 :: (u ++ s)) (H.take n)) = true := by
    unfold satOk
    rw [asn_run h2]
    have hc := h2
    unfold runOk at hc
    rw [Bool.and_eq_true] at hc
    rw [(cir_bd hc.1).1]
    have : rowsSat p (runH p (1 :: (u ++ s)) (H.take n)) [] = true := decide_eq_true fun i hi => by simp at hi
    rw [this]; rfl
  refine ⟨runH p (1 :: (u ++ s)) (H.take n), _, eL.trans hst, eL2, e1, ?_, ?_⟩
  · unfold satL; rw [h2, eL2, hsat]; rfl
  · unfold satE; rw [h2, eL2, hsat]; rfl
end Go.Proofs.Ytlflkddgdbdebaa
