/-
  Regions in their own order.
-/
import Derived.Test.YtjncmibloiomhaaGreatAb16
import Derived.LoopNIn
namespace Go.Ab
section
variable {P : Program}
def MRel (ρ : Loc) : List Nat → List Deferred → Prop
  | [], [] => True
  | m :: ms, d :: ds => (∃ b, ρ m = some (b, 0) ∧ d = { target := .collected b, args := #[] }) ∧ MRel ρ ms ds
  | _, _ => False
theorem MRel.mono {ρ ρ' : Loc} (h : ρ.le ρ') : ∀ {ms : List Nat} {ds : List Deferred}, MRel ρ ms ds → MRel ρ' ms ds
  | [], [], _ => trivial
  | _ :: _, _ :: _, ⟨⟨b, e, e'⟩, k⟩ => ⟨⟨b, h.loc _ _ e, e'⟩, MRel.mono h k⟩
  | [], _ :: _, k => k.elim
  | _ :: _, [], k => k.elim
structure SRel (ρ : Loc) (st : St) (a : Act) (w : World) : Prop where
  tm : LRel ρ st.tm a.tmps.toList
  marks : MRel ρ st.marks a.defers
  heap : HRel ρ st.H w
theorem getD_rel {ρ : Loc} {l : List Value} {a : Array Value} (h : LRel ρ l a.toList) (t : Nat) : VRel ρ (l.getD t undef) (a.getD t undef) := by
  by_cases ht : t < l.length
  · have ht' : t < a.size := by have := h.1; simp at this; omega
    have := h.2 t l[t] a[t] (List.getElem?_eq_getElem ht) (by simp [ht'])
    simpa [List.getD, List.getElem?_eq_getElem ht, Array.getD, ht'] using this
  · have ht' : ¬ t < a.size := by have := h.1; simp at this; omega
    simp [List.getD, List.getElem?_eq_none (Nat.le_of_not_lt ht), Array.getD, ht']
    exact VRel.undef ρ
theorem eval_rel {ρ : Loc} {tm : List Value} {a : Act} (h : LRel ρ tm a.tmps.toList) (x : Operand) (hx : okOperand x = true) : VRel ρ (evT tm x) (a.eval x) := by
  cases x with
  | tmp t => exact getD_rel h t
  | const v => exact VRel.ofPlain hx
  | global g => cases hx
  | func f => exact .func (.inr ⟨rfl, _, rfl⟩) rfl (fun _ _ _ h => by simp at h) rfl (fun _ _ _ h => by simp at h)
theorem put_rel {ρ : Loc} {tm : List Value} {a : Act} {v r : Value} (h : LRel ρ tm a.tmps.toList) (hv : VRel ρ v r) (dst : Option Tmp) : LRel ρ (putL tm dst v) (a.put dst r).tmps.toList := by
  cases dst with
  | none => exact h
  | some d =>
    simp only [putL, Act.put, Array.toList_setIfInBounds]
    exact h.set d hv
theorem put_defers (a : Act) (dst : Option Tmp) (r : Value) : (a.put dst r).defers = a.defers := by cases dst <;> rfl
theorem bool_of {ρ : Loc} {v r : Value} (h : VRel ρ v r) (b : Bool) : r = .bool b ↔ v = .bool b := by
  constructor
  · rintro rfl; cases h <;> first | rfl | (rename_i h; cases h)
  · rintro rfl; exact h.bool
theorem wanted_rel {ρ : Loc} {tm : List Value} {a : Act} (h : LRel ρ tm a.tmps.toList) (ops : Array Oper) (o : Oper) : Region.wanted o (yielded ops a.tmps) = wantedA ops.toList o tm := by
  cases hg : o.guard with
  | none => simp [Region.wanted, wantedA, hg]
  | some p =>
    obtain ⟨j, want⟩ := p
    simp only [Region.wanted, wantedA, hg]
    unfold yielded
    rw [Array.getElem?_toList]
    cases hj : ops[j]? with
    | none => simp
    | some g =>
      simp only [Option.bind_some]
      cases hd : g.dst with
      | none => simp
      | some d =>
        simp only [Option.bind_some]
        cases ht : tm[d]? with
        | none =>
          have : a.tmps[d]? = none := by
            rw [Array.getElem?_eq_none_iff]
            have := List.getElem?_eq_none_iff.1 ht
            have := h.1; simp at this; omega
          simp [this]
        | some v =>
          obtain ⟨r, hr, hv⟩ := h.get ht
          rw [Array.getElem?_toList] at hr
          rw [hr]
          cases r with
          | bool b => have := (bool_of hv b).1 rfl; subst this; simp
          | _ =>
            have hn : ∀ b, v ≠ .bool b := fun b e => by have := (bool_of hv b).2 e; cases this
            cases v <;> first | rfl | exact absurd rfl (hn _)
theorem skip_eq {R : Type} (o : Oper) (st : St) (k : St → Option R) : skipOp o st k = k { st with tm := putL st.tm o.dst undef } := by simp [skipOp, putT_eq]
/-- a region's operations one by one -/
theorem evOps_sound {R : Type} {callF : CallF R} (hcall : CallOk P callF) (ops : Array Oper) : ∀ (os : List Oper) (l : List Nat) (st : St) (k : St → Option R) (r : R),
    evOps P callF ops.toList os st k = some r → l.map (fun i => ops[i]?) = os.map some →
    ∃ st', k st' = some r ∧ st'.marks = st.marks ∧ st.H.next ≤ st'.H.next ∧ ∀ (ρ : Loc) (a : Act) (w : World) (ro : Option Nat) (Q : Exit → Act → World → Prop), SRel ρ st a w → Fresh ρ st.H.next st'.H.next →
      (∀ ρ' a' w', SRel ρ' st' a' w' → Step ρ st.H w ρ' st'.H w' → Q .normal a' w') → wpOpsIn (FF ro) 0 P ops Q l a w
  | [], l, st, k, r, h, hl => by
    simp only [evOps] at h
    have : l = [] := by simpa using hl
    subst this
    exact ⟨st, h, rfl, Nat.le_refl _, fun ρ a w ro Q hS hF hQ => hQ ρ a w hS (Step.refl hS.heap)⟩
  | o :: os, l, st, k, r, h, hl => by
    cases l with
    | nil => simp at hl
    | cons i l =>
      simp only [List.map_cons, List.cons.injEq] at hl
      obtain ⟨hi, hl⟩ := hl
      simp only [evOps] at h
      split at h
      rotate_left
      · cases h
      rename_i hok
      have hops : ∀ x ∈ o.op.operands.toList, okOperand x = true := fun x hx => List.all_eq_true.1 hok x hx
      split at h
      · rename_i hw
        obtain ⟨v, H', hk, hnx, hsim⟩ := evOp_sound hcall h
        obtain ⟨st', hk', hm', hnx', hrest⟩ := evOps_sound hcall ops os l _ k r hk hl
        refine ⟨st', hk', hm', Nat.le_trans hnx hnx', fun ρ a w ro Q hS hF hQ => ?_⟩
        simp only [wpOpsIn, hi, wanted_rel hS.tm, hw, if_true]
        have hF1 : Fresh ρ st.H.next H'.next := hF.le hnx'
        refine hsim ρ w a ro _ _ hS.heap hF1 (fun x hx => eval_rel hS.tm x (hops x hx)) (fun ρ1 vr w1 hv hst => ?_)
        have hle := hst.le hS.heap hF1
        refine hrest ρ1 _ w1 ro Q ⟨put_rel (hS.tm.mono hle) hv _, by rw [put_defers]; exact hS.marks.mono hle, hst.rel⟩ (hst.fresh hF) (fun ρ2 a2 w2 hS2 hst2 => hQ ρ2 a2 w2 hS2 (hst.trans hst2))
      · rename_i hw
        rw [skip_eq] at h
        obtain ⟨st', hk', hm', hnx', hrest⟩ := evOps_sound hcall ops os l _ k r h hl
        refine ⟨st', hk', hm', hnx', fun ρ a w ro Q hS hF hQ => ?_⟩
        have hw' : wantedA ops.toList o st.tm = false := by simpa using hw
        simp only [wpOpsIn, hi, wanted_rel hS.tm, hw', Bool.false_eq_true, if_false]
        exact ⟨fun _ _ => trivial, hrest ρ _ w ro Q ⟨put_rel hS.tm (VRel.undef ρ) _, by rw [put_defers]; exact hS.marks, hS.heap⟩ hF hQ⟩
end
end Go.Ab
