/- SpongeBytes: HashBytes returns the hash of the packed form over the big prime. -/
import Derived.Test.YtaklpdhhcnnclaaAwake8
namespace Go.Proofs.Ytaklpdhhcnnclaa
open Go.ChangeShapes Go.WideShapes Go.ChangeAt Go.RowKit

theorem wfs_u8 {xs : List Int} (h : ∀ x ∈ xs, (Lit.int .u8 x).wf = true) : AllB xs := fun x hx => by
  have := h x hx
  simp [Lit.wf, IntKind.min, IntKind.max, IntKind.signed, IntKind.bits] at this
  omega

namespace spongeBytes

set_option maxHeartbeats 1000000 in
theorem walk (lb : Int) (ad : Option Addr) (c : Nat) (bs : List Int) (w : World) (hl : (Lit.int .u64 lb).wf = true) (S : SlP w .u8 ad c bs) :
    Calls Try.prog 14 #[.int .u64 lb, .slice ad bs.length c] w fun e w' => e = .returned (.bool true) ∧ Below w.heap.size w w' := by
  obtain ⟨l0, l1⟩ := wf_u64 hl
  have hs := S.sl
  have hw := wfs_u8 S.wf
  have hcl := S.le
  clear S hl
  by_cases h40 : bs.length ≤ 200
  · have c1 : ∀ (ad : Option Addr) (c : Nat) (W : World), Sl W .u8 ad bs → bs.length ≤ c → Calls Try.prog 45 #[.int .u64 lb, .slice ad bs.length c] W fun e w' => e = .returned (.int .u64 (hashBytes lb bs)) ∧ Below W.heap.size W w' := fun ad c W h hc => HashBytes_any lb ad c bs W l0 l1 h hw (by omega) hc
    have c2 : ∀ (W : World), Sl W .u8 ad bs → Calls Try.prog 46 #[.int .u64 lb, .slice ad bs.length c] W fun e w' => e = .returned (.int .u64 (hashBytes lb bs)) ∧ Below W.heap.size W w' := fun W h => rHashBytes_any lb ad c bs W l0 l1 h hw (by omega)
    have c3 : ∀ (W : World), Sl W .u8 ad bs → Calls Try.prog 43 #[.slice ad bs.length c] W (RetSl W 22 .u64 (pack bs)) := fun W h => Pack_any ad c bs W h hw (by omega) hcl
    have c4 : ∀ (ad : Option Addr) (c : Nat) (W : World), Sl W .u64 ad (pack bs) → Calls Try.prog 38 #[.int .u64 18446744069414584321, .int .u64 lb, .slice ad (pack bs).length c] W fun e w' => e = .returned (.int .u64 (hashBytes lb bs)) ∧ Below W.heap.size W w' := fun ad c W h =>
      Hash_any big lb ad c (pack bs) W l0 l1 h (pack_W hw (by omega)) (by rw [pack_len]; omega)
    obtain ⟨R, hR⟩ : ∃ R, R = hashBytes lb bs := ⟨_, rfl⟩
    obtain ⟨r, hr⟩ : ∃ r, r = pack bs := ⟨_, rfl⟩
    rw [← hR] at c1 c2 c4
    rw [← hr] at c3 c4
    clear hR hr
    go_enter Try.func14, Try.ntmps14
    go_wp2_with fail
    refine (awake8 _).mono ?_
    rintro ew1 w1 ⟨rfl, hb1⟩
    go_wp2_with (at_builtin; refine wpList_app _ rfl _ _ 36 rfl w.heap.size 5 .u8 1 Try.underlying36 Try.infoU8 (by decide) _ [] bs c ad rfl rfl (Own.empty (by have := hb1.size; omega)) ((hs.mono hb1).alloc _) (by simp; omega) (by have := hb1.size; simp; omega) ?_; intro v' w' hown hg; refine Hold.mk ?_)
    refine Hold.go ?_
    have hb2 : Below w.heap.size w w' := hg.below (hb1.alloc hb1.size _) (Own.empty (base := w.heap.size) (k := .u8) hb1.size) (Nat.le_refl _) (by have := hb1.size; simp; omega)
    obtain ⟨ad', c', rfl, hsl, hc', _⟩ := hown.sl
    clear hg hown
    simp only [List.nil_append] at hsl hc' ⊢
    go_wp2_with fail
    refine (c1 ad' c' w' hsl hc').mono ?_
    rintro e w3 ⟨rfl, hb3⟩
    replace hb3 := below2 hb2 hb3
    clear hsl hb2 c1
    go_wp2_with fail
    refine (c2 w3 (hs.mono hb3)).mono ?_
    rintro e w4 ⟨rfl, hb4⟩
    replace hb4 := below2 hb3 hb4
    clear c2 hb3
    go_wp2_with fail
    refine (c3 w4 (hs.mono hb4)).mono ?_
    rintro e w5 ⟨v, rfl, hown, hb5⟩
    obtain ⟨ad3, c3', rfl, hsl3, _, _⟩ := hown.sl
    replace hb5 := below2 hb4 hb5
    clear hown c3 hb4
    go_wp2_with fail
    refine (c4 ad3 c3' w5 hsl3).mono ?_
    rintro e w6 ⟨rfl, hb6⟩
    clear c4
    go_wp2
    go_ret
    exact ⟨rfl, below2 hb5 hb6⟩
  · have h41 : 200 < bs.length := by omega
    go_enter Try.func14, Try.ntmps14
    go_wp2_with fail
    refine (awake8 _).mono ?_
    rintro ew1 w1 ⟨rfl, hb1⟩
    go_wp2_with fail
    refine (awake8 _).mono ?_
    rintro ew2 w2 ⟨rfl, hb2⟩
    go_wp2
    go_ret
    exact ⟨rfl, below2 hb1 hb2⟩

set_option maxRecDepth 100000 in
theorem lifted (os : Os) (started : os.Started) (H : Type) (enc : TypeId × Value → H) :
    ReturnsInHanded {} Try.checked os 14 .any (Rows.spongeBytesSpec.pre6 enc Try.prog Try.f14 Rows.spongeBytesRow.domain false) (Rows.spongeBytesSpec.post enc Try.prog Try.f14 false true false false) := by
  refine returnsInHanded_of_change (C := Try.checked) own started (by kernel_rfl) Try.func14
    (ChangeSpec.witness6 (enc := enc) (C := Try.checked) false ⟨#[], #[.int .u64 0, .slice none 0 0], []⟩ 8 (by kernel_rfl) (by kernel_rfl) (by kernel_rfl) (by kernel_rfl)) ?_
  intro W base args ds gs before hval0 hW hcnd _
  have hval : ∀ (j : Nat) t v, Try.f14.params[j]? = some t → args[j]? = some v → Value.okWide Try.prog W .any base t v := hval0
  have hW' := hW
  obtain ⟨p, q, hA0, hV, rfl, hfz, hnd⟩ := hW
  have hA : DataW.TrodAll enc Try.prog W 0 (fun _ => true) true Try.f14.params.toList args.toList ds p := hA0
  rw [Try.params14] at hA hval
  obtain ⟨v0, vs0, d0, ds0, p0, q0, hargs, rfl, rfl, h0, r0⟩ := trodAll_cons hA
  obtain ⟨v1, vs1, d1, ds1, p1, q1, rfl, rfl, rfl, h1, r1⟩ := trodAll_cons r0
  obtain ⟨rfl, rfl, rfl⟩ := trodAll_nil r1
  obtain rfl : args = #[v0, v1] := by cases args; simp_all
  obtain ⟨rfl, rfl⟩ := trodVars_none hV
  have k1 := h1
  obtain ⟨a0, rfl, rfl, rfl, w0⟩ := open_int Try.underlying22 (hval 0 22 v0 rfl rfl) h0
  obtain ⟨ad1, cap1, xs1, rfl, S1⟩ := open_slice Try.underlying36 Try.underlying5 (by kernel_rfl) h1 (hval 1 36 v1 rfl rfl) (fun x hx => hW'.lt x (by simp [hx]))
  clear hA0 hval0
  simp only [List.append_nil] at hW'
  refine (walk a0 ad1 cap1 xs1 W w0 S1).mono fun e W' ⟨he, hg⟩ => ?_
  subst he
  exact ⟨_, rfl, post_of_below (pv := []) hW' (fun _ _ _ => (trodAll_cons_mk (shut_bool Try.underlying4 _) trodAll_mk0))
    (fun sp _ hsp => by subst hsp; exact (trodAll_cons_mk (shut_int Try.underlying22 w0) (trodAll_cons_mk (Below.trod Try.laidOut (by kernel_rfl) (of_decide_eq_true (by kernel_rfl)) k1 hg (fun x hx => hW'.lt x (by simp [hx]))) trodAll_mk0))) (fun _ _ => rfl) (by simp) hg⟩

theorem closed : joinedFacts Try.prog 14 Try.f14 Rows.spongeBytesSpec Rows.spongeBytesRow = true := by
  unfold joinedFacts
  rw [Try.mayEnter, Try.liftsFinal, Try.make]
  kernel_rfl

theorem proved : Rows.SpongeBytesSaid :=
  OpenClaim.holds_of_wide 14 Try.f14 rfl rfl rfl rfl rfl rfl rfl ⟨rfl, rfl, rfl, rfl, rfl⟩ rfl rfl rfl rfl rfl (by kernel_rfl) Try.func14 closed
    (of_decide_eq_true (by kernel_rfl)) (by unfold Func.isWrapper; first | (rw [if_pos (by decide +kernel)]; kernel_rfl) | (rw [if_neg (by decide +kernel)]; exact ⟨rfl, rfl⟩))
    (fun os started H enc _ => lifted os started H enc)
#print axioms proved
end spongeBytes
end Go.Proofs.Ytaklpdhhcnnclaa
