/- SpongePack: Pack returns the packed form of every byte string. -/
import Derived.Test.YtaklpdhhcnnclaaAwake8
namespace Go.Proofs.Ytaklpdhhcnnclaa
open Go.ChangeShapes Go.WideShapes Go.ChangeAt Go.RowKit

theorem wfs_u8 {xs : List Int} (h : ∀ x ∈ xs, (Lit.int .u8 x).wf = true) : AllB xs := fun x hx => by
  have := h x hx
  simp [Lit.wf, IntKind.min, IntKind.max, IntKind.signed, IntKind.bits] at this
  omega

namespace spongePack

set_option maxHeartbeats 1000000 in
theorem walk (ad : Option Addr) (c : Nat) (bs : List Int) (w : World) (S : SlP w .u8 ad c bs) :
    Calls Try.prog 12 #[.slice ad bs.length c] w fun e w' => e = .returned (.bool true) ∧ Below w.heap.size w w' := by
  have hs := S.sl
  have hw := wfs_u8 S.wf
  clear S
  by_cases h40 : bs.length ≤ 200
  · have hpl := pack_len bs
    obtain ⟨r, hr⟩ : ∃ r, r = pack bs := ⟨_, rfl⟩
    rw [← hr] at hpl
    replace hpl := hide hpl
    replace hr := hide hr
    go_enter Try.func12, Try.ntmps12
    go_wp2_with fail
    refine (awake8 _).mono ?_
    rintro ew1 w1 ⟨rfl, hb1⟩
    go_wp2_with (at_builtin; refine wpList_app _ rfl _ _ 36 rfl w.heap.size 5 .u8 1 Try.underlying36 Try.infoU8 (by decide) _ [] bs c ad rfl rfl (Own.empty (by have := hb1.size; omega)) ((hs.mono hb1).alloc _) (by simp; omega) (by have := hb1.size; simp; omega) ?_; intro v' w' hown hg; refine Hold.mk ?_)
    refine Hold.go ?_
    have hb2 : Below w.heap.size w w' := hg.below (hb1.alloc hb1.size _) (Own.empty (base := w.heap.size) (k := .u8) hb1.size) (Nat.le_refl _) (by have := hb1.size; simp; omega)
    obtain ⟨ad', c', rfl, hsl, hc', _⟩ := hown.sl
    clear hg hown
    simp only [List.nil_append] at hsl hc' ⊢
    go_wp2_with fail
    refine (Pack_any ad' c' bs w' hsl hw (by omega) hc').mono ?_
    rintro e w3 ⟨v, rfl, hown, hb3⟩
    rw [← hr.out] at hown
    obtain ⟨ad2, c2, rfl, hsl2, _, _⟩ := hown.sl
    replace hb3 := below2 hb2 hb3
    clear hown hsl hb2
    go_wp2_with fail
    refine (rPack_any ad c bs w3 (hs.mono hb3) hw (by omega)).mono ?_
    rintro e w4 ⟨v, rfl, hown, hb4⟩
    rw [← hr.out] at hown
    obtain ⟨ad3, c3, rfl, hsl3, _, _⟩ := hown.sl
    replace hsl2 := hsl2.mono hb4
    replace hb4 := below2 hb3 hb4
    clear hown
    go_wp2_with fail
    refine (rSame4_any ad2 ad3 c2 c3 r r w4 hsl2 hsl3 (by have := hpl.out; omega)).mono ?_
    rintro e w5 ⟨rfl, hb5⟩
    have hd : decide (r = r) = true := by simp
    rw [hd]
    go_wp2
    go_ret
    exact ⟨rfl, below2 hb4 hb5⟩
  · have h41 : 200 < bs.length := by omega
    go_enter Try.func12, Try.ntmps12
    go_wp2_with fail
    refine (awake8 _).mono ?_
    rintro ew1 w1 ⟨rfl, hb1⟩
    go_wp2_with fail
    refine (awake8 _).mono ?_
    rintro ew2 w2 ⟨rfl, hb2⟩
    go_wp2
    go_ret
    exact ⟨rfl, below2 hb1 hb2⟩

set_option maxRecDepth 100000 in
theorem lifted (os : Os) (started : os.Started) (H : Type) (enc : TypeId × Value → H) :
    ReturnsInHanded {} Try.checked os 12 .any (Rows.spongePackSpec.pre6 enc Try.prog Try.f12 Rows.spongePackRow.domain false) (Rows.spongePackSpec.post enc Try.prog Try.f12 false true false false) := by
  refine returnsInHanded_of_change (C := Try.checked) own started (by kernel_rfl) Try.func12
    (ChangeSpec.witness6 (enc := enc) (C := Try.checked) false ⟨#[], #[.slice none 0 0], []⟩ 8 (by kernel_rfl) (by kernel_rfl) (by kernel_rfl) (by kernel_rfl)) ?_
  intro W base args ds gs before hval0 hW hcnd _
  have hval : ∀ (j : Nat) t v, Try.f12.params[j]? = some t → args[j]? = some v → Value.okWide Try.prog W .any base t v := hval0
  have hW' := hW
  obtain ⟨p, q, hA0, hV, rfl, hfz, hnd⟩ := hW
  have hA : DataW.TrodAll enc Try.prog W 0 (fun _ => true) true Try.f12.params.toList args.toList ds p := hA0
  rw [Try.params12] at hA hval
  obtain ⟨v0, vs0, d0, ds0, p0, q0, hargs, rfl, rfl, h0, r0⟩ := trodAll_cons hA
  obtain ⟨rfl, rfl, rfl⟩ := trodAll_nil r0
  obtain rfl : args = #[v0] := by cases args; simp_all
  obtain ⟨rfl, rfl⟩ := trodVars_none hV
  have k0 := h0
  obtain ⟨ad0, cap0, xs0, rfl, S0⟩ := open_slice Try.underlying36 Try.underlying5 (by kernel_rfl) h0 (hval 0 36 v0 rfl rfl) (fun x hx => hW'.lt x (by simp [hx]))
  clear hA0 hval0
  simp only [List.append_nil] at hW'
  refine (walk ad0 cap0 xs0 W S0).mono fun e W' ⟨he, hg⟩ => ?_
  subst he
  exact ⟨_, rfl, post_of_below (pv := []) hW' (fun _ _ _ => (trodAll_cons_mk (shut_bool Try.underlying4 _) trodAll_mk0))
    (fun sp _ hsp => by subst hsp; exact (trodAll_cons_mk (Below.trod Try.laidOut (by kernel_rfl) (of_decide_eq_true (by kernel_rfl)) k0 hg (fun x hx => hW'.lt x (by simp [hx]))) trodAll_mk0)) (fun _ _ => rfl) (by simp) hg⟩

theorem closed : joinedFacts Try.prog 12 Try.f12 Rows.spongePackSpec Rows.spongePackRow = true := by
  unfold joinedFacts
  rw [Try.mayEnter, Try.liftsFinal, Try.make]
  kernel_rfl

theorem proved : Rows.SpongePackSaid :=
  OpenClaim.holds_of_wide 12 Try.f12 rfl rfl rfl rfl rfl rfl rfl ⟨rfl, rfl, rfl, rfl, rfl⟩ rfl rfl rfl rfl rfl (by kernel_rfl) Try.func12 closed
    (of_decide_eq_true (by kernel_rfl)) (by unfold Func.isWrapper; first | (rw [if_pos (by decide +kernel)]; kernel_rfl) | (rw [if_neg (by decide +kernel)]; exact ⟨rfl, rfl⟩))
    (fun os started H enc _ => lifted os started H enc)
#print axioms proved
end spongePack
end Go.Proofs.Ytaklpdhhcnnclaa
