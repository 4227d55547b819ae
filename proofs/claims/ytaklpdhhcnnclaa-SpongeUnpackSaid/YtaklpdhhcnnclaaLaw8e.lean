/- SpongeUnpack: The bytes can be restored from the packed form. -/
import Derived.Test.YtaklpdhhcnnclaaAwake8
namespace Go.Proofs.Ytaklpdhhcnnclaa
open Go.ChangeShapes Go.WideShapes Go.ChangeAt Go.RowKit

theorem wfs_u8 {xs : List Int} (h : ∀ x ∈ xs, (Lit.int .u8 x).wf = true) : AllB xs := fun x hx => by
  have := h x hx
  simp [Lit.wf, IntKind.min, IntKind.max, IntKind.signed, IntKind.bits] at this
  omega

theorem packN_digit : ∀ (l : List Int) (j : Nat), AllB l → j < l.length → packN l / 256 ^ j % 256 = l.getD j 0
  | [], _, _, h => by simp at h
  | b :: r, 0, hw, _ => by
    have := hw b (by simp)
    simp only [packN, Int.pow_zero, Int.ediv_one, List.getD_cons_zero]
    omega
  | b :: r, j + 1, hw, h => by
    have hb := hw b (by simp)
    have ih := packN_digit r j (fun x hx => hw x (by simp [hx])) (by simpa using h)
    simp only [packN, List.getD_cons_succ]
    rw [Int.pow_succ, Int.mul_comm (256 ^ j), ← Int.ediv_ediv_of_nonneg (by decide), show (b + 256 * packN r) / 256 = packN r by omega]
    exact ih

theorem pk_digit (bs : List Int) (hw : AllB bs) (i : Nat) (h : i < bs.length) : pk bs (i / 7) / 256 ^ (i % 7) % 256 = bs.getD i 0 := by
  unfold pk
  rw [packN_digit _ _ ((hw.drop _).take _) (by rw [List.length_take, List.length_drop]; omega)]
  simp only [List.getD_eq_getElem?_getD]
  rw [List.getElem?_take_of_lt (by omega), List.getElem?_drop, show 7 * (i / 7) + i % 7 = i by omega]

theorem pack_get (bs : List Int) (t : Nat) (h : t < (bs.length + 6) / 7) : (pack bs).getD (1 + t) 0 = pk bs t := by
  unfold pack pkL
  rw [Nat.add_comm 1 t, List.getD_cons_succ]
  simp [List.getD_eq_getElem?_getD, h]
theorem pk_bd (bs : List Int) (hw : AllB bs) (t : Nat) : 0 ≤ pk bs t ∧ pk bs t < 72057594037927936 :=
  packN_lt ((hw.drop (7 * t)).take 7) (by rw [List.length_take]; omega)

namespace spongeUnpack

set_option maxRecDepth 10000 in
set_option maxHeartbeats 2000000 in
theorem walk (ad : Option Addr) (c : Nat) (bs : List Int) (w : World) (S : SlP w .u8 ad c bs) :
    Calls Try.prog 13 #[.slice ad bs.length c] w fun e w' => e = .returned (.bool true) ∧ Below w.heap.size w w' := by
  have hs := S.sl
  have hw := wfs_u8 S.wf
  clear S
  by_cases h40 : bs.length ≤ 200
  · have hpl := pack_len bs
    have hp0 : (pack bs).getD 0 0 = bs.length := rfl
    have hpg := pack_get bs
    obtain ⟨r, hr⟩ : ∃ r, r = pack bs := ⟨_, rfl⟩
    rw [← hr] at hpl hp0 hpg
    replace hpl := hide hpl
    replace hp0 := hide hp0
    replace hpg := hide hpg
    replace hr := hide hr
    go_enter Try.func13, Try.ntmps13
    go_wp2_with fail
    refine (awake8 _).mono ?_
    rintro ew1 w1 ⟨rfl, hb1⟩
    go_wp2_with (at_builtin; refine wpList_app _ rfl _ _ 36 rfl w.heap.size 5 .u8 1 Try.underlying36 Try.infoU8 (by decide) _ [] bs c ad rfl rfl (Own.empty (by have := hb1.size; omega)) ((hs.mono hb1).alloc _) (by simp; omega) (by have := hb1.size; simp; omega) ?_; intro v' w' hown hg; refine Hold.mk ?_)
    refine Hold.go ?_
    have hb2 : Below w.heap.size w w' := hg.below (hb1.alloc hb1.size _) (Own.empty (base := w.heap.size) (k := .u8) hb1.size) (Nat.le_refl _) (by have := hb1.size; simp; omega)
    obtain ⟨ad', c', rfl, hsl, hc', _⟩ := hown.sl
    clear hg hown
    simp only [List.nil_append] at hsl hc' ⊢
    go_wp2_with fail
    refine (Pack_any ad' c' bs w' hsl hw (by omega) hc').mono ?_
    rintro e w3 ⟨v, rfl, hown, hb3⟩
    rw [← hr.out] at hown
    replace hb3 := below2 hb2 hb3
    clear hsl hb2 hb1
    obtain ⟨n, hn⟩ : ∃ n, n = (bs.length + 6) / 7 := ⟨_, rfl⟩
    obtain ⟨g, cap, rfl, _⟩ := hown.open_ (N := 1 + n) (by rw [hpl.out, hn]) (by omega)
    have y0 := hown.cell (j := 0) (by omega)
    rw [hp0.out] at y0
    have hnn : ((bs.length : Int) + 6) / 7 = n := by omega
    have hcv : IntKind.u64.wrap (bs.length : Int) = bs.length := by rw [IntKind.wrap_u64]; omega
    have hcl := hown.len.2
    replace hn := hide hn
    go_wp2_with fail
    clear y0 hcv hnn
    go_loopw [38] (fun t38 wr => ∃ i : Nat, i ≤ bs.length ∧ t38 = .int .i64 i ∧ Own wr w'.heap.size 22 .u64 (.slice (some ⟨g, 0, none⟩) (1 + n) cap) r ∧ Below w.heap.size w wr) (fun t38 _ => bs.length - (intOf t38).toNat)
    case atStart => exact ⟨0, by omega, rfl, hown, hb3⟩
    case round =>
      obtain ⟨i, hi, rfl, G, hb⟩ := hrel
      by_cases hlt : i < bs.length
      · obtain ⟨b, off, rfl, hbl, hc⟩ := (hs.mono hb).get hlt
        have hd := pk_digit bs hw i hlt
        have hpb := pk_bd bs hw (i / 7)
        have hq := G.cell (j := 1 + i / 7) (by have := hn.out; omega)
        rw [hpg.out (i / 7) (by omega)] at hq
        obtain ⟨x, hx⟩ : ∃ x, x = bs.getD i 0 := ⟨_, rfl⟩
        obtain ⟨q, hq'⟩ : ∃ q, q = pk bs (i / 7) := ⟨_, rfl⟩
        rw [← hx] at hc hd
        rw [← hq'] at hq hd hpb
        have k1 := cell_later' hc
        have k2 := cell_later' hq
        obtain ⟨d, hd1⟩ : ∃ d, d = i / 7 := ⟨_, rfl⟩
        obtain ⟨e, he1⟩ : ∃ e, e = i % 7 := ⟨_, rfl⟩
        rw [← hd1] at k2
        rw [← he1] at hd
        have f1 : (i : Int).tdiv 7 = d := by rw [Int.tdiv_eq_ediv_of_nonneg (by omega)]; omega
        have f2 : (i : Int).tmod 7 = e := by rw [Int.tmod_eq_emod_of_nonneg (by omega)]; omega
        have f3 : IntKind.i64.wrap (d : Int) = d := by rw [IntKind.wrap_i64]; omega
        have f4 : IntKind.i64.wrap (1 + (d : Int)) = 1 + d := by rw [IntKind.wrap_i64]; omega
        have f5 : (1 + (d : Int)).toNat = 1 + d := by omega
        have f6 : IntKind.i64.wrap (e : Int) = e := by rw [IntKind.wrap_i64]; omega
        have f7 : IntKind.i64.wrap (8 * (e : Int)) = 8 * e := by rw [IntKind.wrap_i64]; omega
        have f8 : (1 + (d : Int)) < 1 + n := by have := hn.out; omega
        have f9 : 0 ≤ (1 + (d : Int)) := by omega
        have hsh : ∀ W : World, (Op.shift .shr .u64 q .i64 (8 * (e : Int))).run Try.prog W = .ok (.int .u64 (q / 256 ^ e)) W := fun W => by
          have h2 : (8 * (e : Int)).toNat = 8 * e := by omega
          have h3 : (2 : Int) ^ (8 * e) = 256 ^ e := pow_two_256 e
          simp [h2, h3]
          try omega
        obtain ⟨z, hz⟩ : ∃ z, z = q / 256 ^ e := ⟨_, rfl⟩
        rw [← hz] at hd hsh
        have hcv : IntKind.u8.wrap z = x := by rw [IntKind.wrap_u8]; exact hd
        clear hd hz
        clear hc hq hx hq' hd1 he1
        go_wp2_with fail
        refine wp_region_later Try.mixed (by kernel_rfl) ?_
        repeat (first | go_big_quiet_step (first | fail) | quiet_step (first | fail))
        refine wpQuiet_nil ?_
        intro w4 hb4
        replace hb4 := below_of_later hb4
        replace G := G.mono hb4
        replace hb := below2 hb hb4
        clear k1 k2 hsh hcv hb4
        go_wp2
        go_roundw
        case rel => exact ⟨i + 1, by omega, by go_num, G, hb⟩
        case measure => simp [intOf]; omega
      · clear hown
        have hlen : r.length = 1 + n := by rw [hpl.out, hn.out]
        have hn30 : n ≤ 30 := by have := hn.out; omega
        by_cases hc1 : cap = 1
        · have hn0 : n = 0 := by omega
          subst hn0 hc1
          replace hlen := hide hlen
          go_wp2_with fail
          go_loop [61] (fun t61 => t61 = .int .i64 0) (fun _ => 0)
          case atStart => rfl
          case round =>
            subst hrel
            go_wp2
            go_ret
            exact ⟨rfl, hb⟩
        · replace hlen := hide hlen
          go_wp2_with fail
          go_loop [61] (fun t61 => ∃ t : Nat, t ≤ n ∧ t61 = .int .i64 t) (fun t61 => n - (intOf t61).toNat)
          case atStart => exact ⟨0, by omega, rfl⟩
          case round =>
            obtain ⟨t, ht, rfl⟩ := hrel
            by_cases hlt2 : t < n
            · have hq := G.cell (j := 1 + t) (by omega)
              rw [hpg.out t (by have := hn.out; omega)] at hq
              obtain ⟨q0, q1⟩ := pk_bd bs hw t
              obtain ⟨q, hq'⟩ : ∃ q, q = pk bs t := ⟨_, rfl⟩
              rw [← hq'] at hq q0 q1
              clear hq'
              go_wp2
              go_round
              case rel => exact ⟨t + 1, by omega, by go_num⟩
              case measure => simp [intOf]; omega
            · obtain rfl : t = n := by omega
              go_wp2
              go_ret
              exact ⟨rfl, hb⟩
  · have h41 : 200 < bs.length := by omega
    go_enter Try.func13, Try.ntmps13
    go_wp2_with fail
    refine (awake8 _).mono ?_
    rintro ew1 w1 ⟨rfl, hb1⟩
    go_wp2_with fail
    refine (awake8 _).mono ?_
    rintro ew2 w2 ⟨rfl, hb2⟩
    go_wp2
    go_ret
    exact ⟨rfl, below2 hb1 hb2⟩

set_option maxRecDepth 100000 in
theorem lifted (os : Os) (started : os.Started) (H : Type) (enc : TypeId × Value → H) :
    ReturnsInHanded {} Try.checked os 13 .any (Rows.spongeUnpackSpec.pre6 enc Try.prog Try.f13 Rows.spongeUnpackRow.domain false) (Rows.spongeUnpackSpec.post enc Try.prog Try.f13 false true false false) := by
  refine returnsInHanded_of_change (C := Try.checked) own started (by kernel_rfl) Try.func13
    (ChangeSpec.witness6 (enc := enc) (C := Try.checked) false ⟨#[], #[.slice none 0 0], []⟩ 8 (by kernel_rfl) (by kernel_rfl) (by kernel_rfl) (by kernel_rfl)) ?_
  intro W base args ds gs before hval0 hW hcnd _
  have hval : ∀ (j : Nat) t v, Try.f13.params[j]? = some t → args[j]? = some v → Value.okWide Try.prog W .any base t v := hval0
  have hW' := hW
  obtain ⟨p, q, hA0, hV, rfl, hfz, hnd⟩ := hW
  have hA : DataW.TrodAll enc Try.prog W 0 (fun _ => true) true Try.f13.params.toList args.toList ds p := hA0
  rw [Try.params13] at hA hval
  obtain ⟨v0, vs0, d0, ds0, p0, q0, hargs, rfl, rfl, h0, r0⟩ := trodAll_cons hA
  obtain ⟨rfl, rfl, rfl⟩ := trodAll_nil r0
  obtain rfl : args = #[v0] := by cases args; simp_all
  obtain ⟨rfl, rfl⟩ := trodVars_none hV
  have k0 := h0
  obtain ⟨ad0, cap0, xs0, rfl, S0⟩ := open_slice Try.underlying36 Try.underlying5 (by kernel_rfl) h0 (hval 0 36 v0 rfl rfl) (fun x hx => hW'.lt x (by simp [hx]))
  clear hA0 hval0
  simp only [List.append_nil] at hW'
  refine (walk ad0 cap0 xs0 W S0).mono fun e W' ⟨he, hg⟩ => ?_
  subst he
  exact ⟨_, rfl, post_of_below (pv := []) hW' (fun _ _ _ => (trodAll_cons_mk (shut_bool Try.underlying4 _) trodAll_mk0))
    (fun sp _ hsp => by subst hsp; exact (trodAll_cons_mk (Below.trod Try.laidOut (by kernel_rfl) (of_decide_eq_true (by kernel_rfl)) k0 hg (fun x hx => hW'.lt x (by simp [hx]))) trodAll_mk0)) (fun _ _ => rfl) (by simp) hg⟩

theorem closed : joinedFacts Try.prog 13 Try.f13 Rows.spongeUnpackSpec Rows.spongeUnpackRow = true := by
  unfold joinedFacts
  rw [Try.mayEnter, Try.liftsFinal, Try.make]
  kernel_rfl

theorem proved : Rows.SpongeUnpackSaid :=
  OpenClaim.holds_of_wide 13 Try.f13 rfl rfl rfl rfl rfl rfl rfl ⟨rfl, rfl, rfl, rfl, rfl⟩ rfl rfl rfl rfl rfl (by kernel_rfl) Try.func13 closed
    (of_decide_eq_true (by kernel_rfl)) (by unfold Func.isWrapper; first | (rw [if_pos (by decide +kernel)]; kernel_rfl) | (rw [if_neg (by decide +kernel)]; exact ⟨rfl, rfl⟩))
    (fun os started H enc _ => lifted os started H enc)
#print axioms proved
end spongeUnpack
end Go.Proofs.Ytaklpdhhcnnclaa
