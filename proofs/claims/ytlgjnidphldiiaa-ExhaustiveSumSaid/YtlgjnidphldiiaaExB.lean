/- Exhaustive search: lists of equations; inverses. -/
import Derived.Test.YtlgjnidphldiiaaExA
import Derived.Test.YtlgjnidphldiiaaCirL
namespace Go.Proofs.Ytlgjnidphldiiaa
open Go.RowKit

instance : Inhabited Eq3 := ⟨⟨⟨0, 0⟩, ⟨0, 0⟩, ⟨0, 0⟩⟩⟩
def eqL : Lay Eq3 := ⟨fun e => [.int .u64 e.a.b, .int .u64 e.a.s, .int .u64 e.b.b, .int .u64 e.b.s, .int .u64 e.c.b, .int .u64 e.c.s], 6, fun _ => rfl, by decide, fun x u hu => by
  simp only [List.mem_cons, List.not_mem_nil, or_false] at hu
  rcases hu with rfl | rfl | rfl | rfl | rfl | rfl <;> rfl⟩
theorem eq_cells {w : World} {ad : Option Addr} {es : List Eq3} (h : SlG eqL w ad es) {i : Nat} (hi : i < es.length) : ∃ b off, ad = some ⟨b, off, none⟩ ∧ b < w.heap.size ∧
    w.cell? ⟨b, off + i * 6, none⟩ = some (.int .u64 (es.getD i default).a.b) ∧ w.cell? ⟨b, off + i * 6 + 1, none⟩ = some (.int .u64 (es.getD i default).a.s) ∧ w.cell? ⟨b, off + i * 6 + 2, none⟩ = some (.int .u64 (es.getD i default).b.b) ∧
    w.cell? ⟨b, off + i * 6 + 3, none⟩ = some (.int .u64 (es.getD i default).b.s) ∧ w.cell? ⟨b, off + i * 6 + 4, none⟩ = some (.int .u64 (es.getD i default).c.b) ∧ w.cell? ⟨b, off + i * 6 + 5, none⟩ = some (.int .u64 (es.getD i default).c.s) := by
  obtain ⟨b, off, e, hl, hc⟩ := h (by omega)
  exact ⟨b, off, e, hl, SlG.at_ (j := 0) default hc hi (by decide) rfl, SlG.at_ (j := 1) default hc hi (by decide) rfl, SlG.at_ (j := 2) default hc hi (by decide) rfl, SlG.at_ (j := 3) default hc hi (by decide) rfl, SlG.at_ (j := 4) default hc hi (by decide) rfl, SlG.at_ (j := 5) default hc hi (by decide) rfl⟩
theorem SlG.mono' {α : Type} {L : Lay α} {w w' : World} {a : Option Addr} {xs : List α} (h : SlG L w a xs) (hb : Below w.heap.size w w') : SlG L w' a xs := h.mono hb

set_option maxRecDepth 10000 in
set_option maxHeartbeats 4000000 in
theorem allHold_any (p x : Int) (ad : Option Addr) (c : Nat) (es : List Eq3) (w : World) (hp : 0 < p ∧ p ≤ 257) (hs : SlG eqL w ad es) (he : ∀ e ∈ es, EqB p e) (hx : 0 ≤ x ∧ x < p) (hl : es.length ≤ 1000000) :
    Calls Try.prog 129 #[.slice ad es.length c, .int .u64 x, .int .u64 p] w fun en w' => en = .returned (.bool (es.all (holdsE p x))) ∧ Below w.heap.size w w' := by
  replace he := hide he
  go_enter Try.func129, Try.ntmps129
  go_wp2_with fail
  go_loopw [11] (fun t11 wr => ∃ i : Nat, i ≤ es.length ∧ t11 = .int .i64 i ∧ Below w.heap.size w wr ∧ Hid (∀ k, k < i → holdsE p x (es.getD k default) = true)) (fun t11 _ => es.length - (intOf t11).toNat)
  case atStart => exact ⟨0, Nat.zero_le _, rfl, Below.refl _ _, hide fun k hk => absurd hk (by omega)⟩
  case round =>
    obtain ⟨i, hi, rfl, hb, hk⟩ := hrel
    by_cases hlt : i < es.length
    · have hlt' : (i : Int) < es.length := by omega
      obtain ⟨b, off, rfl, _, c0, c1, c2, c3, c4, c5⟩ := eq_cells (hs.mono' hb) hlt
      have heb := he.out _ (getD_mem' hlt default)
      have hkn : Hid (∀ v, v = holdsE p x (es.getD i default) → v = true → ∀ k, k < i + 1 → holdsE p x (es.getD k default) = true) := hide fun v hv hvt k hk2 => by
        by_cases e : k = i
        · subst e; rw [← hv, hvt]
        · exact hk.out k (by omega)
      have hno : Hid (∀ v, v = holdsE p x (es.getD i default) → v = false → es.all (holdsE p x) = false) := hide fun v hv hvf => by
        rw [List.all_eq_false]
        exact ⟨_, getD_mem' hlt default, by rw [← hv, hvf]; decide⟩
      have cH := fun W => holds_any p x (es.getD i default) W hp heb hx
      obtain ⟨v, hv⟩ : ∃ v, v = holdsE p x (es.getD i default) := ⟨_, rfl⟩
      rw [← hv] at cH
      replace hkn := hide (hkn.out v hv)
      replace hno := hide (hno.out v hv)
      replace hv := hide hv
      generalize es.getD i default = e at *
      clear heb
      cases v with
      | true =>
        have hkn2 := hide (hkn.out rfl)
        clear hkn
        go_wp2_with fail
        refine (cH _).mono ?_
        rintro en w3 ⟨rfl, hb3⟩
        have hbN := hb.trans (((Below.refl wr.heap.size wr).alloc (Nat.le_refl _) (.cells #[.int .u64 e.a.b, .int .u64 e.a.s, .int .u64 e.b.b, .int .u64 e.b.s, .int .u64 e.c.b, .int .u64 e.c.s] 158)).mono hb.size)
        have hbN2 := below2 hbN hb3
        clear c0 c1 c2 c3 c4 c5 cH hbN hb3
        go_wp2
        go_roundw
        case rel => exact ⟨i + 1, by omega, by go_num, hbN2, hkn2⟩
        case measure => simp [intOf]; omega
      | false =>
        have hno2 := hide (hno.out rfl)
        clear hno
        go_wp2_with fail
        refine (cH _).mono ?_
        rintro en w3 ⟨rfl, hb3⟩
        have hbN := hb.trans (((Below.refl wr.heap.size wr).alloc (Nat.le_refl _) (.cells #[.int .u64 e.a.b, .int .u64 e.a.s, .int .u64 e.b.b, .int .u64 e.b.s, .int .u64 e.c.b, .int .u64 e.c.s] 158)).mono hb.size)
        go_wp2
        go_ret
        exact ⟨congrArg (fun x => Ending.returned (.bool x)) hno2.out.symm, below2 hbN hb3⟩
    · obtain rfl : i = es.length := by omega
      have hall : es.all (holdsE p x) = true := by
        rw [List.all_eq_true]
        intro e he2
        obtain ⟨k, hk2, rfl⟩ := List.mem_iff_getElem.1 he2
        have := hk.out k hk2
        rw [List.getD_eq_getElem?_getD, List.getElem?_eq_getElem hk2] at this
        exact this
      replace hall := hide hall
      go_wp2
      go_ret
      exact ⟨congrArg (fun x => Ending.returned (.bool x)) hall.out.symm, hb⟩

/-- The first quadratic equation, -1 if there is none. -/
def quadI (es : List Eq3) : Int := match es.findIdx? quadE with
  | some i => i
  | none => -1
set_option maxRecDepth 10000 in
set_option maxHeartbeats 4000000 in
theorem IndexFunc_any (ad : Option Addr) (c : Nat) (es : List Eq3) (w : World) (hs : SlG eqL w ad es) (hl : es.length ≤ 1000000) :
    Calls Try.prog 145 #[.slice ad es.length c, .func (.func 146) #[] #[]] w fun en w' => en = .returned (.int .i64 (quadI es)) ∧ Below w.heap.size w w' := by
  go_enter Try.func145, Try.ntmps145
  go_wp2_with fail
  go_loopw [8] (fun t8 wr => ∃ i : Nat, i ≤ es.length ∧ t8 = .int .i64 i ∧ Below w.heap.size w wr ∧ Hid (∀ k, k < i → quadE (es.getD k default) = false)) (fun t8 _ => es.length - (intOf t8).toNat)
  case atStart => exact ⟨0, Nat.zero_le _, rfl, Below.refl _ _, hide fun k hk => absurd hk (by omega)⟩
  case round =>
    obtain ⟨i, hi, rfl, hb, hk⟩ := hrel
    by_cases hlt : i < es.length
    · have hlt' : (i : Int) < es.length := by omega
      obtain ⟨b, off, rfl, _, c0, c1, c2, c3, c4, c5⟩ := eq_cells (hs.mono' hb) hlt
      have hkn : Hid (∀ v, v = quadE (es.getD i default) → v = false → ∀ k, k < i + 1 → quadE (es.getD k default) = false) := hide fun v hv hvt k hk2 => by
        by_cases e : k = i
        · subst e; rw [← hv, hvt]
        · exact hk.out k (by omega)
      have hyes : Hid (∀ v, v = quadE (es.getD i default) → v = true → quadI es = i) := hide fun v hv hvt => by
        have : es.findIdx? quadE = some i := by
          rw [List.findIdx?_eq_some_iff_getElem]
          refine ⟨hlt, ?_, fun j hj => ?_⟩
          · have e2 : es.getD i default = es[i] := by rw [List.getD_eq_getElem?_getD, List.getElem?_eq_getElem hlt]; rfl
            rw [← e2, ← hv, hvt]
          · have e2 : es.getD j default = es[j] := by rw [List.getD_eq_getElem?_getD, List.getElem?_eq_getElem (by omega)]; rfl
            rw [← e2, hk.out j hj]
            decide
        unfold quadI
        rw [this]
      have cH := fun W => isQuad_any (es.getD i default) W
      obtain ⟨v, hv⟩ : ∃ v, v = quadE (es.getD i default) := ⟨_, rfl⟩
      rw [← hv] at cH
      replace hkn := hide (hkn.out v hv)
      replace hyes := hide (hyes.out v hv)
      replace hv := hide hv
      generalize es.getD i default = e at *
      cases v with
      | true =>
        have hq := hide (hyes.out rfl)
        go_wp2_with fail
        refine (cH _).mono ?_
        rintro en w3 ⟨rfl, hb3⟩
        go_wp2
        go_ret
        exact ⟨congrArg (fun x => Ending.returned (.int .i64 x)) hq.out.symm, below2 hb hb3⟩
      | false =>
        have hkn2 := hide (hkn.out rfl)
        clear hkn
        go_wp2_with fail
        refine (cH _).mono ?_
        rintro en w3 ⟨rfl, hb3⟩
        have hbN2 := below2 hb hb3
        clear c0 c1 c2 c3 c4 c5 cH hb3
        go_wp2
        go_roundw
        case rel => exact ⟨i + 1, by omega, by go_num, hbN2, hkn2⟩
        case measure => simp [intOf]; omega
    · obtain rfl : i = es.length := by omega
      have hall : Hid (quadI es = -1) := hide (by
        have : es.findIdx? quadE = none := by
          rw [List.findIdx?_eq_none_iff]
          intro e he2
          obtain ⟨k, hk2, rfl⟩ := List.mem_iff_getElem.1 he2
          have := hk.out k hk2
          rw [List.getD_eq_getElem?_getD, List.getElem?_eq_getElem hk2] at this
          exact this
        unfold quadI
        rw [this])
      go_wp2
      go_ret
      exact ⟨congrArg (fun x => Ending.returned (.int .i64 x)) hall.out.symm, hb⟩
end Go.Proofs.Ytlgjnidphldiiaa
