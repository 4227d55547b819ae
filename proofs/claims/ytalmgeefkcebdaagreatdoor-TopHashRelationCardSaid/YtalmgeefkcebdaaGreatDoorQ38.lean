/- TopHashRelation: for every n, every label and all three words, the program that compares a public input with the hash of two secret ones compiles, and its circuit is satisfied exactly by the preimages of the input; where the package-level variables that the row lists read as the program's text lays them (the card ties them). -/
import Derived.Test.YtalmgeefkcebdaaGreatDoorQ37
import Derived.Test.YtalmgeefkcebdaaGreatDoorCards
import Derived.Test.YtalmgeefkcebdaaGreatDoorTie
import Derived.LaidMore
import Derived.JoinedCond
import Derived.Deep.DeepHandedRow
import Derived.Deep.DeepWitnessRowRef
import Derived.Lib.LaidU8
import Derived.Shelf.Vars
import Derived.MakeChecks
import Derived.SevenTiedAt
namespace Go.Proofs.YtalmgeefkcebdaaGreatDoor
open Go.ChangeShapes Go.WideShapes Go.ChangeAt Go.RowKit
namespace topHashRelation

/-- The operators, as the variable lists them. -/
def opD : List (List (List UInt8 × Int)) := [[([111, 114], 19), ([], 0), ([], 0), ([], 0)], [([97, 110, 100], 18), ([], 0), ([], 0), ([], 0)], [([61, 61], 14), ([33, 61], 15), ([60], 16), ([60, 61], 17)], [([43], 12), ([45], 13), ([], 0), ([], 0)], [([42], 11), ([], 0), ([], 0), ([], 0)]]
theorem opD_eq : (Rows.laid_moidore_parser_operators : DataW Unit) = .agg (opD.map fun r => .agg (r.map fun x => .agg [.lit (.string x.1), .lit (.int .i64 x.2)])) := by rfl
theorem gOps : Tryz.prog.globalNamed "moidore/parser.operators" = some 2 := by kernel_rfl
theorem tOps : (Tryz.prog.globals[2]?).map (·.type) = some 289 := by kernel_rfl
theorem cOp : Tryz.prog.cellsOf 287 = 2 := by kernel_rfl
theorem cOp4 : Tryz.prog.cellsOf 288 = 8 := by kernel_rfl
theorem cStr : Tryz.prog.cellsOf 9 = 1 := by kernel_rfl
theorem cInt : Tryz.prog.cellsOf 3 = 1 := by kernel_rfl
theorem op_cell {W : World} (h : Lib.VarReads Tryz.prog W "moidore/parser.operators" Rows.laid_moidore_parser_operators) (i j : Nat) (bs : List UInt8) (k : Int) (hij : (opD[i]?).bind (·[j]?) = some (bs, k)) (hi : i < 5) (hj : j < 4) :
    W.cell? ⟨2, i * 8 + j * 2, none⟩ = some (.string ⟨bs.toArray⟩) ∧ W.cell? ⟨2, i * 8 + j * 2 + 1, none⟩ = some (.int .i64 k) := by
  obtain ⟨g, t, cs, fuel, p, hg, hty, hvar, hd⟩ := h
  obtain rfl := Option.some.inj (gOps.symm.trans hg)
  obtain rfl := Option.some.inj (tOps.symm.trans hty)
  rw [opD_eq] at hd
  obtain ⟨f1, d1, q1, e1, h1⟩ := Lib.array_elem Tryz.underlying289 hd i hi
  rw [List.getElem?_map] at e1
  cases hr : opD[i]? with
  | none => rw [hr] at hij; cases hij
  | some r =>
    rw [hr] at e1 hij
    cases e1
    rw [cOp4] at h1
    obtain ⟨f2, d2, q2, e2, h2⟩ := Lib.array_elem Tryz.underlying288 h1 j hj
    rw [List.getElem?_map] at e2
    have hij2 : r[j]? = some (bs, k) := hij
    rw [hij2] at e2
    cases e2
    rw [cOp] at h2
    obtain ⟨y0, y1, n, ex, hl, t0, t1⟩ := trod_struct2 Tryz.underlying287 h2
    obtain ⟨s, c0, x0, _⟩ := DataW.trod_string Tryz.underlying9 t0
    obtain ⟨m, c1, x1, _⟩ := DataW.trod_int Tryz.underlying3 t1
    subst x0
    subst x1
    simp only [Prod.mk.injEq, DataW.agg.injEq, List.cons.injEq, DataW.lit.injEq, Lit.string.injEq, Lit.int.injEq, and_true, true_and] at ex
    obtain ⟨⟨eb, ek⟩, _⟩ := ex
    have z0 := congrArg (·[0]?) c0
    have z1 := congrArg (·[0]?) c1
    simp only [cStr, cInt, List.getElem?_take, List.getElem?_drop] at z0 z1
    have v0 := World.var?_cell hg hvar (i * 8 + j * 2)
    have v1 := World.var?_cell hg hvar (i * 8 + j * 2 + 1)
    have z2 : j * 2 < 8 ∧ cs[i * 8 + j * 2]? = some (.string s) := by simpa using z0
    have z3 : j * 2 + 1 < 8 ∧ cs[i * 8 + j * 2 + 1]? = some (.int .i64 m) := by simpa [Nat.add_assoc] using z1
    rw [v0, v1, z2.2, z3.2, eb, ek]
    refine ⟨?_, rfl⟩
    rw [Array.toArray_toList]
theorem ops_of {W : World} (h : Lib.VarReads Tryz.prog W "moidore/parser.operators" Rows.laid_moidore_parser_operators) : POps W :=
  ⟨⟨(op_cell h 0 0 [111, 114] 19 rfl (by decide) (by decide)).1, (op_cell h 0 0 [111, 114] 19 rfl (by decide) (by decide)).2, (op_cell h 0 1 [] 0 rfl (by decide) (by decide)).1, (op_cell h 0 1 [] 0 rfl (by decide) (by decide)).2, (op_cell h 0 2 [] 0 rfl (by decide) (by decide)).1, (op_cell h 0 2 [] 0 rfl (by decide) (by decide)).2, (op_cell h 0 3 [] 0 rfl (by decide) (by decide)).1, (op_cell h 0 3 [] 0 rfl (by decide) (by decide)).2⟩,
   ⟨(op_cell h 1 0 [97, 110, 100] 18 rfl (by decide) (by decide)).1, (op_cell h 1 0 [97, 110, 100] 18 rfl (by decide) (by decide)).2, (op_cell h 1 1 [] 0 rfl (by decide) (by decide)).1, (op_cell h 1 1 [] 0 rfl (by decide) (by decide)).2, (op_cell h 1 2 [] 0 rfl (by decide) (by decide)).1, (op_cell h 1 2 [] 0 rfl (by decide) (by decide)).2, (op_cell h 1 3 [] 0 rfl (by decide) (by decide)).1, (op_cell h 1 3 [] 0 rfl (by decide) (by decide)).2⟩,
   ⟨(op_cell h 2 0 [61, 61] 14 rfl (by decide) (by decide)).1, (op_cell h 2 0 [61, 61] 14 rfl (by decide) (by decide)).2, (op_cell h 2 1 [33, 61] 15 rfl (by decide) (by decide)).1, (op_cell h 2 1 [33, 61] 15 rfl (by decide) (by decide)).2, (op_cell h 2 2 [60] 16 rfl (by decide) (by decide)).1, (op_cell h 2 2 [60] 16 rfl (by decide) (by decide)).2, (op_cell h 2 3 [60, 61] 17 rfl (by decide) (by decide)).1, (op_cell h 2 3 [60, 61] 17 rfl (by decide) (by decide)).2⟩,
   ⟨(op_cell h 3 0 [43] 12 rfl (by decide) (by decide)).1, (op_cell h 3 0 [43] 12 rfl (by decide) (by decide)).2, (op_cell h 3 1 [45] 13 rfl (by decide) (by decide)).1, (op_cell h 3 1 [45] 13 rfl (by decide) (by decide)).2, (op_cell h 3 2 [] 0 rfl (by decide) (by decide)).1, (op_cell h 3 2 [] 0 rfl (by decide) (by decide)).2, (op_cell h 3 3 [] 0 rfl (by decide) (by decide)).1, (op_cell h 3 3 [] 0 rfl (by decide) (by decide)).2⟩,
   ⟨(op_cell h 4 0 [42] 11 rfl (by decide) (by decide)).1, (op_cell h 4 0 [42] 11 rfl (by decide) (by decide)).2, (op_cell h 4 1 [] 0 rfl (by decide) (by decide)).1, (op_cell h 4 1 [] 0 rfl (by decide) (by decide)).2, (op_cell h 4 2 [] 0 rfl (by decide) (by decide)).1, (op_cell h 4 2 [] 0 rfl (by decide) (by decide)).2, (op_cell h 4 3 [] 0 rfl (by decide) (by decide)).1, (op_cell h 4 3 [] 0 rfl (by decide) (by decide)).2⟩⟩
/-- The world that the door's own run leaves meets what the row lists. -/
theorem door_met (os : Os) (args : Array Value) : laidMetH Tryz.prog Rows.topHashRelationRow.laid ((World.doorLaid Tryz.prog 81 os).forCall (fun _ _ => 0) ⟨#[], args, []⟩).memory :=
  laidMetH_of_parts3 (fuel := 8) (laidMet_of_run' 8 (by kernel_rfl) (by kernel_rfl)) (by kernel_rfl) (by kernel_rfl)
theorem row_met (os : Os) {H : Type} (enc : TypeId × Value → H) :
    (OpenSpec.ofChange Rows.topHashRelationSpec).preRow enc Tryz.prog Tryz.f3 Rows.topHashRelationRow.domain false Rows.topHashRelationRow.laid ((World.doorLaid Tryz.prog 81 os).forCall (fun _ _ => 0) ⟨#[], #[.int .u8 0, .int .u16 0, .agg #[.int .u64 0, .int .u64 0, .int .u64 0]], []⟩).memory #[.int .u8 0, .int .u16 0, .agg #[.int .u64 0, .int .u64 0, .int .u64 0]] :=
  OpenSpec.preRow_of_B rfl 8 (by kernel_rfl) (by kernel_rfl) (door_met os _)
theorem wf_u8 {x : Int} (h : (Lit.int .u8 x).wf = true) : 0 ≤ x ∧ x < 256 := by
  simp [Lit.wf, IntKind.min, IntKind.max, IntKind.signed, IntKind.bits] at h
  omega
theorem wf_u16 {x : Int} (h : (Lit.int .u16 x).wf = true) : 0 ≤ x ∧ x < 65536 := by
  simp [Lit.wf, IntKind.min, IntKind.max, IntKind.signed, IntKind.bits] at h
  omega
set_option maxRecDepth 100000 in
theorem lifted (os : Os) (started : os.Started) (H : Type) (enc : TypeId × Value → H) (F : Stop.Interp) :
    ReturnsInHanded {} Tryz.checked os 3 .any ((OpenSpec.ofChange Rows.topHashRelationSpec).preRow enc Tryz.prog Tryz.f3 Rows.topHashRelationRow.domain false Rows.topHashRelationRow.laid) (((OpenSpec.ofChange Rows.topHashRelationSpec).at F).post enc Tryz.prog Tryz.f3 false true false false) := by
  refine returnsInHanded_of_row (C := Tryz.checked) (s := OpenSpec.ofChange Rows.topHashRelationSpec) own started (by kernel_rfl) Tryz.func3
    (witness_row_atRef (enc := enc) (C := Tryz.checked) false (World.doorLaid Tryz.prog 81 os) #[.int .u8 0, .int .u16 0, .agg #[.int .u64 0, .int .u64 0, .int .u64 0]] rfl (by kernel_rfl) (by kernel_rfl) (by kernel_rfl) (row_met os enc)) ?_
  intro W base args ds gs before hval0 hW _ _ _ hL hsh _
  have hval : ∀ (j : Nat) t v, Tryz.f3.params[j]? = some t → args[j]? = some v → Value.okWide Tryz.prog W .any base t v := hval0
  have hW' := hW
  obtain ⟨p, q, hA0, hV, rfl, hfz, hnd⟩ := hW
  have hA : DataW.TrodAll enc Tryz.prog W 0 (fun _ => true) true Tryz.f3.params.toList args.toList ds p := hA0
  rw [Tryz.params3] at hA hval
  obtain ⟨v0, vs0, d0, ds0, p0, q0, hargs, rfl, rfl, h0, r0⟩ := trodAll_cons hA
  obtain ⟨v1, vs1, d1, ds1, p1, q1, rfl, rfl, rfl, h1, r1⟩ := trodAll_cons r0
  obtain ⟨v2, vs2, d2, ds2, p2, q2, rfl, rfl, rfl, h2, r2⟩ := trodAll_cons r1
  obtain ⟨rfl, rfl, rfl⟩ := trodAll_nil r2
  obtain rfl : args = #[v0, v1, v2] := by cases args; simp_all
  obtain ⟨rfl, rfl⟩ := trodVars_none hV
  have k2 := h2
  obtain ⟨a0, rfl, rfl, rfl, w0⟩ := open_int Tryz.underlying5 (hval 0 5 v0 rfl rfl) h0
  obtain ⟨a1, rfl, rfl, rfl, w1⟩ := open_int Tryz.underlying22 (hval 1 22 v1 rfl rfl) h1
  obtain ⟨a2, b2, c2, rfl, rfl, rfl, wa2, wb2, wc2⟩ := open_arr3 Tryz.underlying24 Tryz.underlying23 (by kernel_rfl) (by kernel_rfl) (hval 2 24 v2 rfl rfl) h2
  clear hA0 hval0
  simp only [List.append_nil] at hW'
  have hLm : laidMet Tryz.prog Rows.topHashRelationRow.laid W := by
    rw [MakeChecks.laidMetH_plain _ _ _ (by kernel_rfl)] at hL
    exact hL
  have hO := ops_of (Lib.laidMet.reads hLm (.tail _ (.tail _ (.tail _ (.tail _ (.tail _ (.head _)))))))
  obtain ⟨m, hm⟩ : ∃ m, W.cell? ⟨5, 0, none⟩ = some (.int .i64 m) := cell_of_shapedOpen_int (zero := #[.int .i64 0]) (t := 3) hsh (of_decide_eq_true (by kernel_rfl)) (by kernel_rfl) rfl (by kernel_rfl) (by kernel_rfl) Tryz.underlying3
  have h5 : 5 < W.heap.size := cell_lt hm
  clear hL hLm hsh
  refine (law_any m a0 a1 a2 b2 c2 W hm hO h5 (wf_u8 w0) (wf_u16 w1) (wf_u64 wa2) (wf_u64 wb2) (wf_u64 wc2)).mono fun e W' ⟨he, hg⟩ => ?_
  subst he
  exact ⟨_, rfl, post_of_below (s := Rows.topHashRelationSpec) (pv := []) hW' (fun _ _ _ => (trodAll_cons_mk (shut_bool Tryz.underlying4 _) trodAll_mk0))
    (fun sp _ hsp => by subst hsp; exact (trodAll_cons_mk (shut_int Tryz.underlying5 w0) (trodAll_cons_mk (shut_int Tryz.underlying22 w1) (trodAll_cons_mk (Below.trod Tryz.laidOut (by kernel_rfl) (of_decide_eq_true (by kernel_rfl)) k2 hg (fun x hx => by cases hx)) trodAll_mk0)))) (fun _ _ => rfl) (by simp) hg⟩

theorem closed : joinedFacts Tryz.prog 3 Tryz.f3 (OpenSpec.ofChange Rows.topHashRelationSpec).bare Rows.topHashRelationRow = true := by
  unfold joinedFacts
  rw [Tryz.mayEnter, Tryz.liftsFinal, Tryz.make]
  kernel_rfl

theorem row_holds : Rows.TopHashRelationSaid :=
  OpenClaim.holds_of_cond 3 Tryz.f3 rfl rfl rfl rfl rfl rfl rfl ⟨rfl, rfl, rfl, rfl, rfl⟩ rfl rfl rfl rfl rfl (by kernel_rfl) Tryz.func3 closed
    (of_decide_eq_true (by kernel_rfl)) (by unfold Func.isWrapper; first | (rw [if_pos (by decide +kernel)]; kernel_rfl) | (rw [if_neg (by decide +kernel)]; exact ⟨rfl, rfl⟩))
    (fun os started H enc _ F0 => by rw [OpenClaim.pre_eq_preRow]; exact lifted os started H enc F0)
theorem proved : Rows.TopHashRelationCardSaid :=
  Claim7.holds_tied_plain_at .later [] [.data, .data, .data, .sentinel, .sentinel, .data] true (true, "442890cbbbeb33af478de374ad26d1b0ffe5dce1921d2ed1379fd353163c176b") true
    row_holds (fun _ h => by cases h) (by kernel_rfl) (fun _ h => by cases h) topHashRelation_row_tie rfl ⟨rfl, rfl⟩ (by kernel_rfl) rfl
    (fun f fn hf hfn => by
      obtain rfl : f = 3 := Option.some.inj ((show Tryz.prog.funcNamed "moidore/moidoretop.TopHashRelation" = some 3 by kernel_rfl).symm.trans hf) |>.symm
      obtain rfl : fn = Tryz.f3 := (Option.some.inj (Tryz.func3.symm.trans hfn)).symm
      exact ⟨by kernel_rfl, fun j t ht => by
        rw [Tryz.params3] at ht
        have hm : t ∈ [5, 22, 24] := by simpa using Array.mem_of_getElem? ht
        have hall : ([5, 22, 24].all fun u => !Tryz.prog.wantsStandIn u) = true := by kernel_rfl
        exact (show Tryz.prog.wantsStandIn t = false by simpa using List.all_eq_true.1 hall t hm)⟩)
    (by kernel_rfl)
#print axioms proved
end topHashRelation
end Go.Proofs.YtalmgeefkcebdaaGreatDoor

