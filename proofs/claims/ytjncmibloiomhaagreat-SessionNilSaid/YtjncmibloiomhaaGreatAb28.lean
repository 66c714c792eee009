/-
  The evaluator where some calls are known otherwise.
-/
import Derived.Test.YtjncmibloiomhaaGreatAb27
namespace Go.Ab
open Go.RowKit
section
variable {P : Program}
noncomputable def evO {R : Type} (P : Program) (fns : FuncId → Option FnE) (ov : Tgt → List Value → Option Value) : Nat → CallF R :=
  Nat.rec (fun _ _ _ _ => none) fun n ih t args H k => match ov t args with
    | some v => k v H
    | none => callBody P fns ih n t args H k
theorem evO_sound {fns : FuncId → Option FnE} {ov : Tgt → List Value → Option Value} (hT : TabOk P fns) (hm : P.follows .mixedOrders = true) (hov : ∀ t args v, ov t args = some v → ∀ H, CallSim P t args H v H) {R : Type} : ∀ n, CallOk P (evO P fns ov n : CallF R)
  | 0 => fun t args H k r h => by cases h
  | n + 1 => fun t args H k r h => by
    have h : (match ov t args with
      | some v => k v H
      | none => callBody P fns (evO P fns ov n) n t args H k) = some r := h
    have ih := evO_sound hT hm hov (R := R) n
    cases ho : ov t args with
    | some v =>
      rw [ho] at h
      exact ⟨v, H, h, Nat.le_refl _, hov t args v ho H⟩
    | none =>
      rw [ho] at h
      exact callBody_sound hT ih (region_sound hm _ ih) n t args H k r h
theorem Step.below {ρ : Loc} {H : AHeap} {w w' : World} (h : HRel ρ H w) (hB : Below w.heap.size w w') : Step ρ H w ρ H w' where
  ext _ _ := rfl
  len _ _ := rfl
  next := Nat.le_refl _
  size := hB.size
  same b hb _ := hB.block b hb
  own _ hb := .inr hb
  live _ hb := .inr hb
  calm := ⟨hB.os, hB.tape, hB.output⟩
  rel := ⟨fun i o hi => let ⟨b, s, r, a1, a2, a3⟩ := h.obj i o hi; ⟨b, s, r, a1, by rw [hB.block b (h.dom_lt a1)]; exact a2, a3⟩, fun i b s hi => by rw [hB.block b (h.dom_lt hi)]; exact h.dom i b s hi, h.inj, h.lt⟩
/-- a function of which it is known what it does from every world -/
theorem sim_of {f : FuncId} {args : List Value} {v : Value} (he : Go.Proofs.Enters P f) (h : ∀ (ρ : Loc) (ar : Array Value) (w : World), LRel ρ args ar.toList → Calls P f ar w fun e w' => ∃ vr, e = .returned vr ∧ VRel ρ v vr ∧ Below w.heap.size w w') (H : AHeap) : CallSim P (.fn f) args H v H :=
  fun ρ w ar hH _ hA => ⟨he ar, callsIn_wide.2 ((h ρ ar w hA).mono fun _ _ ⟨vr, e1, e2, e3⟩ => ⟨ρ, vr, e1, e2, Step.below hH e3⟩)⟩
theorem ranO {ov : Tgt → List Value → Option Value} (hm : P.follows .mixedOrders = true) (hn : namesOk P = true) (hov : ∀ t args v, ov t args = some v → ∀ H, CallSim P t args H v H) {n : Nat} {f : FuncId} {args : List Value} {v : Value}
    (h : evO P (fnTab P) ov n (.fn f) args heap0 (fun v _ => some v) = some v) {w : World} {ar : Array Value} (hA : LRel loc0 args ar.toList) :
    Calls P f ar w fun e w' => ∃ ρ vr, e = .returned vr ∧ VRel ρ v vr ∧ Below w.heap.size w w' := by
  obtain ⟨v', H', hk, _, hs⟩ := evO_sound (tab_ok hn) hm hov n _ _ _ _ _ h
  have hv : v' = v := Option.some.inj hk
  subst hv
  have h0 : HRel loc0 heap0 w := ⟨fun i o h => (by cases h), fun i b s h => (by cases h), fun i j o o' b s s' _ h => (by cases h), fun i o h => (by cases h)⟩
  obtain ⟨_, hc⟩ := hs loc0 w ar h0 (fun _ _ _ => rfl) hA
  refine callsIn_wide.1 (CallsIn.mono hc ?_)
  rintro e w' ⟨ρ, vr, he, hvr, hst⟩
  refine ⟨ρ, vr, he, hvr, hst.calm.os, hst.calm.tape, hst.calm.output, hst.size, fun k hk => hst.same k hk ?_⟩
  rintro ⟨i, o, s, hi, _⟩
  cases hi
theorem VRel.tok {ρ : Loc} {r : Value} (h : VRel ρ (.chan (some 1)) r) : ∃ n, r = .int .i64 n := by
  cases h with
  | anyInt n => exact ⟨n, rfl⟩
  | plain _ h => simp [plain0] at h
theorem tok5 {ρ : Loc} {r : Value} (h : VRel ρ (.agg #[.chan (some 1), .chan (some 1), .chan (some 1), .chan (some 1), .chan (some 1)]) r) : ∃ x1 x2 x3 x4 x5 : Int, r = .agg #[.int .i64 x1, .int .i64 x2, .int .i64 x3, .int .i64 x4, .int .i64 x5] := by
  obtain ⟨a', rfl, hl⟩ := h.aggSome
  obtain ⟨r1, l1, e1, h1, hl⟩ := LRel.cons_inv hl
  obtain ⟨r2, l2, rfl, h2, hl⟩ := LRel.cons_inv hl
  obtain ⟨r3, l3, rfl, h3, hl⟩ := LRel.cons_inv hl
  obtain ⟨r4, l4, rfl, h4, hl⟩ := LRel.cons_inv hl
  obtain ⟨r5, l5, rfl, h5, hl⟩ := LRel.cons_inv hl
  obtain rfl := LRel.nil_inv hl
  obtain ⟨x1, rfl⟩ := h1.tok
  obtain ⟨x2, rfl⟩ := h2.tok
  obtain ⟨x3, rfl⟩ := h3.tok
  obtain ⟨x4, rfl⟩ := h4.tok
  obtain ⟨x5, rfl⟩ := h5.tok
  exact ⟨x1, x2, x3, x4, x5, congrArg Value.agg (Array.ext' e1)⟩
/-! ### arguments -/
noncomputable def opqPlain (P : Program) (t : TypeId) : Bool :=
  match P.underlying t with
  | some (.struct _) | some (.array _ _) | some .bool | none => false
  | some _ => true
theorem arg_opq {ρ : Loc} {w : World} {r : Reach} {base : Nat} {t : TypeId} {v : Value} (h : Value.okWide P w r base t v) (hb : opqPlain P t = true) : VRel ρ opq v := by
  refine opq_rel (P := P) (w := w) (r := r) (base := base) (u := t) ?_ ?_
  · unfold opqPlain at hb
    unfold Value.okWide at h
    cases hu : P.underlying t with
    | none => rw [hu] at hb; cases hb
    | some d => rw [hu] at hb h; cases d <;> first | exact h | cases hb
  · unfold opqPlain at hb
    unfold noBool
    cases hu : P.underlying t with
    | none => rfl
    | some d => rw [hu] at hb; cases d <;> first | rfl | cases hb
noncomputable def isInt64 (P : Program) (u : TypeId) : Bool :=
  match P.underlying u with
  | some (.int .i64) => true
  | _ => false
noncomputable def intStruct (P : Program) (t : TypeId) : Bool :=
  match P.underlying t, P.cellTypes P.depth t with
  | some (.struct _), some ts => ts.all (isInt64 P)
  | _, _ => false
theorem arg_ints {ρ : Loc} {w : World} {r : Reach} {base : Nat} {t : TypeId} {v : Value} (h : Value.okWide P w r base t v) (hb : intStruct P t = true) : VRel ρ (.agg ⟨List.replicate (P.cellsOf t) (.chan (some 1))⟩) v := by
  unfold intStruct at hb
  split at hb
  · rename_i fs ts hu hts
    simp only [Value.okWide, hu] at h
    obtain ⟨cs, rfl, hsz, ts', h1, _, h2⟩ := h
    rw [hts] at h1; cases h1
    refine .agg' ⟨by simp [hsz], fun i a b ha hb' => ?_⟩
    simp only [List.getElem?_replicate] at ha
    split at ha
    · cases ha
      rw [Array.getElem?_toList] at hb'
      obtain ⟨u, hu', hc⟩ := h2 i b hb'
      have hi := List.all_eq_true.1 hb u (List.mem_of_getElem? hu')
      unfold isInt64 at hi
      split at hi
      · rename_i he
        unfold Cell.okWide Cell.ok at hc
        rw [he] at hc
        cases b <;> simp at hc
        obtain ⟨rfl, _⟩ := hc
        exact .anyInt _
      · cases hi
    · cases ha
  · cases hb
end
end Go.Ab
