/-
  WireNil: whatever the act, a world that is nil does nothing: the law answers true, and the act reads behind the call as it read before. No condition.
-/
import Derived.Test.YtjncmibloiomhaaGreatRows
import Derived.Test.YtjncmibloiomhaaGreatAb26
namespace Go.Proofs.YtjncmibloiomhaaGreat
open Go.RowKit Go.WideShapes Go.ChangeShapes Go.Ab
theorem Tryz.own : ownKnob Tryz.prog.godebug = none := by kernel_rfl
theorem Tryz.laidOut : laidOutB Tryz.prog = true := by kernel_rfl
theorem Tryz.mixed : Tryz.prog.follows .mixedOrders = true := by kernel_rfl
theorem Tryz.names : namesOk Tryz.prog = true := by kernel_rfl
theorem wireNil_tells : tells (ev Tryz.prog (fnTab Tryz.prog) 1000 (.fn 4) [.agg ⟨List.replicate (Tryz.prog.cellsOf 41) opq⟩] heap0 fun v _ => some v) = true := by kernel_rfl
theorem wireNil_struct : opqStruct Tryz.prog 41 = true := by kernel_rfl
theorem wireNil_reads : Tryz.f4.params.toList.all (fun t => Tryz.prog.readableRec t && decide (t < Tryz.prog.types.size)) = true := by kernel_rfl
set_option maxRecDepth 100000 in
theorem wireNil_lifted (os : Os) (started : os.Started) (H : Type) (enc : TypeId × Value → H) :
    ReturnsInHanded {} Tryz.checked os 4 .any (Rows.wireNilSpec.pre6 enc Tryz.prog Tryz.f4 Rows.wireNilRow.domain false) (Rows.wireNilSpec.post enc Tryz.prog Tryz.f4 Rows.wireNilRow.apart Rows.wireNilRow.fresh Rows.wireNilRow.handsOn Rows.wireNilRow.again) := by
  refine returnsInHanded_of_change (C := Tryz.checked) Tryz.own started (by kernel_rfl) Tryz.func4
    (ChangeSpec.witness6 (enc := enc) (C := Tryz.checked) false ⟨#[], #[.agg #[.int .i64 0, .int .i64 0, .int .i64 0, .slice none 0 0]], []⟩ 8 (by kernel_rfl) (by kernel_rfl) (by kernel_rfl) (by kernel_rfl)) ?_
  intro W base args ds gs before hval hW _ _
  have hW' := hW
  obtain ⟨p, q, hA, _, _, _, _⟩ := hW'
  have hA : DataW.TrodAll enc Tryz.prog W 0 (fun _ => true) true Tryz.f4.params.toList args.toList ds p := hA
  rw [Tryz.params4] at hA
  obtain ⟨v, d, rfl, rfl, _⟩ := trodAll_one hA
  have hv := agg_opq (ρ := loc0) (hval 0 41 v rfl rfl) wireNil_struct
  refine (ran Tryz.mixed Tryz.names (tells_eq wireNil_tells) (LRel.cons hv (LRel.nil loc0))).mono fun e W' ⟨ρ, vr, he, hvr, hB⟩ => ?_
  cases hvr.bool
  have hs : Rows.wireNilSpec.fn H ([d] ++ gs) = { results := [.lit (.bool true)], args := [d] } := by
    obtain ⟨_, _, _, hV, _, _, _⟩ := hW
    obtain ⟨rfl, _⟩ := trodVars_none hV
    rfl
  exact ⟨_, he, law_post Tryz.laidOut wireNil_reads rfl rfl Tryz.underlying4 hW hs hB⟩
theorem wireNil_holds : Rows.WireNilSaid :=
  OpenClaim.holds_of_wide 4 Tryz.f4 rfl rfl rfl rfl rfl rfl rfl ⟨rfl, rfl, rfl, rfl, rfl⟩ rfl rfl rfl rfl rfl (by kernel_rfl) Tryz.func4 (by kernel_rfl)
    (of_decide_eq_true (by kernel_rfl)) (by unfold Func.isWrapper; first | (rw [if_pos (by decide +kernel)]; kernel_rfl) | (rw [if_neg (by decide +kernel)]; exact ⟨rfl, rfl⟩))
    (fun os started H enc _ => wireNil_lifted os started H enc)
#print axioms wireNil_holds
end Go.Proofs.YtjncmibloiomhaaGreat
