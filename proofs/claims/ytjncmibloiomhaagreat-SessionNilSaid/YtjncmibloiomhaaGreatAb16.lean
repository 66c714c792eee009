/-
  One operation, in the walk's words.
-/
import Derived.Test.YtjncmibloiomhaaGreatAb15
namespace Go.Ab
section
variable {P : Program}
/-- the fence that asks nothing, in a round or not -/
def FF (ro : Option Nat) : Fence := { fn := fun _ => True, depth := none, alive := false, round := ro }
theorem FF_none : FF none = Fence.wide := rfl
/-- what an evaluated call says of the machine's -/
def Back (ρ : Loc) (H : AHeap) (w : World) (v : Value) (H' : AHeap) (e : Ending) (w' : World) : Prop := ∃ ρ' vr, e = .returned vr ∧ VRel ρ' v vr ∧ Step ρ H w ρ' H' w'
def CallSim (P : Program) (t : Tgt) (args : List Value) (H : AHeap) (v : Value) (H' : AHeap) : Prop :=
  ∀ (ρ : Loc) (w : World) (ar : Array Value), HRel ρ H w → Fresh ρ H.next H'.next → LRel ρ args ar.toList →
    match t with
    | .fn f => (∀ w, (callFunc f ar).run P w = .ok (.enter f ar) w) ∧ CallsIn Fence.wide 0 P f ar w (Back ρ H w v H')
    | .yield l => ∀ b, ρ l = some (b, 0) → ∃ fn tmps assign body, (Instr.yield b ar).run P w = .ok (.round b fn tmps assign body) w ∧ RoundIn Fence.wide 0 P b fn tmps assign body w (Back ρ H w v H')
def CallOk (P : Program) {R : Type} (callF : CallF R) : Prop :=
  ∀ t args H k r, callF t args H k = some r → ∃ v H', k v H' = some r ∧ H.next ≤ H'.next ∧ CallSim P t args H v H'
noncomputable def putL (tm : List Value) (dst : Option Tmp) (v : Value) : List Value :=
  match dst with
  | some d => tm.set d v
  | none => tm
theorem putT_eq {R : Type} (tm : List Value) (dst : Option Tmp) (v : Value) (k : List Value → Option R) : putT tm dst v k = k (putL tm dst v) := by
  cases dst <;> simp [putT, putL, setK_eq]
/-- what an operation of the evaluator says of the machine's -/
def OpSim (P : Program) (o : Oper) (e : Operand → Value) (H : AHeap) (v : Value) (H' : AHeap) : Prop :=
  ∀ (ρ : Loc) (w : World) (a : Act) (ro : Option Nat) (K : Act → World → Prop) (Q : Exit → Act → World → Prop), HRel ρ H w → Fresh ρ H.next H'.next → (∀ x ∈ o.op.operands.toList, VRel ρ (e x) (a.eval x)) →
    (∀ ρ' vr w', VRel ρ' v vr → Step ρ H w ρ' H' w' → K (a.put o.dst vr) w') → o.wpIn (FF ro) 0 P a w K Q
theorem op_value {o : Oper} {a : Act} {ro : Option Nat} {w w' : World} {nx : Next} {vr : Value} {K : Act → World → Prop} {Q : Exit → Act → World → Prop} (hd : ∀ c, o.op ≠ .defer c) (h : (execOp a.eval o).run P w = .ok nx w')
    (hn : nx = .value vr ∨ nx = .skip ∧ vr = undef) (hK : K (a.put o.dst vr) w') : o.wpIn (FF ro) 0 P a w K Q := by
  refine ⟨fun _ _ => trivial, ?_⟩
  rw [Oper.semAt_eq _ _ _ hd, h]
  rcases hn with rfl | ⟨rfl, rfl⟩ <;> exact hK
theorem forceE_eq {R : Type} (x : MapEntry) (k : MapEntry → Option R) : forceE x k = k x := by simp [forceE, force_eq, forceN_eq]
theorem forceEs_eq {R : Type} (l : List MapEntry) : ∀ (k : List MapEntry → Option R), forceEs l k = k l := by
  induction l with
  | nil => intro k; rfl
  | cons x l ih =>
    intro k
    show forceE x (fun x => forceEs l fun l => k (x :: l)) = _
    rw [forceE_eq, ih]
theorem forceNs_eq {R : Type} (l : List Nat) : ∀ (k : List Nat → Option R), forceNs l k = k l := by
  induction l with
  | nil => intro k; rfl
  | cons x l ih =>
    intro k
    show forceN x (fun x => forceNs l fun l => k (x :: l)) = _
    rw [forceN_eq, ih]
theorem forceO_eq {R : Type} (o : AObj) (k : AObj → Option R) : forceO o k = k o := by
  unfold forceO
  split <;> simp [forceL_eq, forceEs_eq, forceN_eq, forceNs_eq]
theorem upd_run {R : Type} (u : Upd) (H : AHeap) (k : Nat → AHeap → Option R) : u.run H k = k (u.id H) (u.app H) := by
  unfold Upd.run
  split <;> simp [forceO_eq, AHeap.putK_eq, AHeap.newK_eq, Upd.id, Upd.app, AHeap.next_put]
theorem upd_next (u : Upd) (H : AHeap) : H.next ≤ (u.app H).next := by
  unfold Upd.app
  split <;> simp [AHeap.next_put, AHeap.next_new]
theorem method_run {t : TypeId} {v : Value} {name : String} {i : TypeInfo} {g : FuncId} {m : Method} {el : TypeId} (hi : P.info? t = some i) (hu : P.underlying t = some (.pointer el)) (hf : i.methods.toList.find? (fun m => m.name == name) = some m)
    (hm : m.func = some (g, true)) (hp : m.path.toList.isEmpty = true) (w : World) : (method (P.types.size + Made.depth) t v name).run P w = .ok (g, v) w := by
  obtain ⟨n, hn⟩ : ∃ n, P.types.size + Made.depth = n + 1 := ⟨P.types.size + Made.depth - 1, by unfold Made.depth; omega⟩
  rw [hn]
  have hp' : m.path.toList = [] := by simpa using hp
  have hf' : i.methods.find? (fun m => m.name == name) = some m := by rw [← Array.find?_toList]; exact hf
  unfold method
  simp [typeInfo, hi, hf', hp', follow, hm, receiverAt, run_underlying hu, Place.get]
theorem callOp_sound {R : Type} {callF : CallF R} (hcall : CallOk P callF) {o : Oper} {e : Operand → Value} {t : Tgt} {args : List Value} {H : AHeap} {k : Value → AHeap → Option R} {r : R}
    (h : callOp P o.op e = some (t, args)) (hr : callF t args H k = some r) : ∃ v H', k v H' = some r ∧ H.next ≤ H'.next ∧ OpSim P o e H v H' := by
  obtain ⟨v, H', hk, hnx, hsim⟩ := hcall t args H k r hr
  refine ⟨v, H', hk, hnx, fun ρ w a ro K Q hH hF hE hK => ?_⟩
  unfold callOp at h
  split at h
  rotate_left
  · cases h
  rename_i c hop
  have hd : ∀ c, o.op ≠ .defer c := fun c e => by rw [hop] at e; cases e
  have enter : ∀ {f : FuncId} {ar : Array Value} (_ : t = .fn f) (_ : LRel ρ args ar.toList), (execOp a.eval o).run P w = (callFunc f ar).run P w → o.wpIn (FF ro) 0 P a w K Q := by
    intro f ar ht hl hrun
    subst ht
    obtain ⟨h1, h2⟩ := hsim ρ w ar hH hF hl
    refine ⟨fun _ _ => trivial, ?_⟩
    rw [Oper.semAt_eq _ _ _ hd, hrun, h1 w, Oper.uponIn_enter]
    refine ⟨fun h => absurd h (by simp [FF]), ?_⟩
    refine CallsIn.mono (F := FF ro) (n := 0) (show CallsIn (FF ro) 0 P f ar w _ from h2) ?_
    rintro e w' ⟨ρ', vr, rfl, hv, hst⟩
    exact hK ρ' vr w' hv hst
  split at h
  · rename_i f hcal
    have hf := hE f (by rw [hop]; simp [Op.operands, Call.operands, hcal])
    have hargs : LRel ρ (c.args.toList.map e) (c.args.map a.eval).toList := by
      rw [Array.toList_map]
      exact list_rel fun x hx => hE x (by rw [hop]; simp [Op.operands, Call.operands, hcal]; exact .inr (by simpa using hx))
    split at h
    · rename_i g fa fb he
      cases h
      rw [he] at hf
      obtain ⟨g', fa', fb', hr', hfn, hl1, hl2⟩ := hf.funcSome
      rcases hfn with ⟨_, _, e1, _, _⟩ | ⟨rfl, _, _⟩
      · cases e1
      refine enter (ar := fa' ++ c.args.map a.eval ++ fb') rfl ?_ ?_
      · simp only [Array.toList_append]
        exact (hl1.append hargs).append hl2
      · simp [execOp, hop, resolve, hcal, hr', Deferred.ofValue, invoke]
    · rename_i l fa fb he
      cases h
      rw [he] at hf
      obtain ⟨g', fa', fb', hr', hfn, hl1, hl2⟩ := hf.funcSome
      rcases hfn with ⟨i, b, e1, rfl, hb⟩ | ⟨_, _, e1⟩
      rotate_left
      · cases e1
      cases e1
      obtain ⟨fn, tmps, assign, body, hy, hround⟩ := hsim ρ w (fa' ++ c.args.map a.eval) hH hF (by simp only [Array.toList_append]; exact hl1.append hargs) b hb
      refine ⟨fun _ _ => trivial, ?_⟩
      rw [Oper.semAt_eq _ _ _ hd]
      have hrun : (execOp a.eval o).run P w = .ok (.round b fn tmps assign body) w := by
        simp [execOp, hop, resolve, hcal, hr', Deferred.ofValue, invoke, hy]
      rw [hrun, Oper.uponIn_round]
      refine ⟨fun h => absurd h (by simp [FF]), ?_⟩
      refine RoundIn.mono (F := FF ro) (n := 0) (show RoundIn (FF ro) 0 P b fn tmps assign body w _ from hround) ?_
      rintro e w' ⟨ρ', vr, rfl, hv, hst⟩
      exact hK ρ' vr w' hv hst
    · cases h
  · rename_i rv name hcal
    have hf := hE rv (by rw [hop]; simp [Op.operands, Call.operands, hcal])
    have hargs : LRel ρ (c.args.toList.map e) (c.args.map a.eval).toList := by
      rw [Array.toList_map]
      exact list_rel fun x hx => hE x (by rw [hop]; simp [Op.operands, Call.operands, hcal]; exact .inr (by simpa using hx))
    split at h
    · rename_i t' u he
      split at h
      · rename_i i el hi hu
        split at h
        · rename_i m hm
          split at h
          · rename_i g hg
            split at h
            · rename_i hp
              cases h
              rw [he] at hf
              obtain ⟨u', hr', hu'⟩ := hf.ifaceSome
              refine enter (ar := #[u'] ++ c.args.map a.eval) rfl ?_ ?_
              · simp only [Array.toList_append]
                exact LRel.cons hu' hargs
              · have hm' := method_run (v := u') hi hu hm hg hp w
                have hex : (#[Value.iface t' u'] ++ c.args.map a.eval).extract 1 (#[Value.iface t' u'] ++ c.args.map a.eval).size = c.args.map a.eval := by
                  apply Array.ext'; simp [List.take_of_length_le]
                have h0 : (#[Value.iface t' u'] ++ c.args.map a.eval)[0]? = some (Value.iface t' u') := by
                  rw [Array.getElem?_append_left (by simp)]; rfl
                simp only [execOp, hop, resolve, hcal, hr', Sem.run_bind, Sem.run_pure, Result.andThen_ok, invoke]
                simp only [h0, callMethod, Sem.run_bind, run_program, Result.andThen_ok, hm', hex]
            · cases h
          · cases h
        · cases h
      · cases h
    · cases h
  · cases h
/-- ONE OPERATION -/
theorem evOp_sound {R : Type} {callF : CallF R} (hcall : CallOk P callF) {o : Oper} {st : St} {k : St → Option R} {r : R} (h : evOp P callF o st k = some r) :
    ∃ v H', k { st with tm := putL st.tm o.dst v, H := H' } = some r ∧ st.H.next ≤ H'.next ∧ OpSim P o (evT st.tm) st.H v H' := by
  unfold evOp at h
  split at h
  · split at h
    · rename_i v hv
      rw [force_eq, putT_eq] at h
      refine ⟨v, st.H, h, Nat.le_refl _, fun ρ w a ro K Q hH hF hE hK => ?_⟩
      obtain ⟨vr, hvr, hrun⟩ := pure_sound hv hE
      exact op_value (fun c e => by rw [e] at hv; simp [pureOp] at hv) (hrun o w rfl) (.inl rfl) (hK ρ vr w hvr (Step.refl hH))
    · cases h
  · split at h
    · rename_i ob mk hv
      rw [forceO_eq, AHeap.newK_eq, putT_eq] at h
      refine ⟨_, _, h, Nat.le_succ _, fun ρ w a ro K Q hH hF hE hK => ?_⟩
      obtain ⟨w', vr, robj, hrun, hg, hfin⟩ := alloc_sound hv hE o rfl w
      have hfr := fresh_one hF
      obtain ⟨h1, h2⟩ := hfin _ st.H.next (upd_le hH (s := 0) (n := clen robj) hfr) (upd_same _ _ _ _) (upd_len _ _ (w.heap.size, 0) _)
      exact op_value (fun c e => by rw [e] at hv; simp [allocOp] at hv) hrun (.inl rfl) (hK _ vr w' h1 (Step.new hH hfr hg h2))
    · cases h
  · split at h
    · rename_i v hv
      rw [force_eq, putT_eq] at h
      refine ⟨v, st.H, h, Nat.le_refl _, fun ρ w a ro K Q hH hF hE hK => ?_⟩
      obtain ⟨vr, hvr, hrun⟩ := read_sound hv hE o rfl w hH
      exact op_value (fun c e => by rw [e] at hv; simp [readOp] at hv) hrun (.inl rfl) (hK ρ vr w hvr (Step.refl hH))
    · cases h
  · split at h
    · rename_i f args hc
      rw [forceL1_eq] at h
      obtain ⟨v, H', hk, hnx, hsim⟩ := callOp_sound hcall hc h
      rw [putT_eq] at hk
      exact ⟨v, H', hk, hnx, hsim⟩
    · split at h
      · rename_i u mk hv
        rw [upd_run, force_eq, putT_eq] at h
        refine ⟨_, _, h, upd_next _ _, fun ρ w a ro K Q hH hF hE hK => ?_⟩
        obtain ⟨nx, w', ρ', vr, hrun, hn, hvr, hst⟩ := eff_sound hv hE o rfl w hH hF
        exact op_value (fun c e => by rw [e] at hv; simp [effOp] at hv) hrun hn (hK ρ' vr w' hvr hst)
      · cases h
end
end Go.Ab
