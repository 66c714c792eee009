/-
  Code, and calls.
-/
import Derived.Test.YtjncmibloiomhaaGreatAb17
import Derived.RangeFuncRecord
import Derived.Scope
import Derived.RangeFuncNested
import Derived.Shelf.Abstract
namespace Go.Ab
section
variable {P : Program}
def RegionOk (P : Program) {R : Type} (callF : CallF R) : Prop :=
  ∀ (ops : Array Oper) (draw : Bool) (st : St) (k : St → Option R) (r : R), evRegion P callF ops draw st k = some r →
    ∃ st', k st' = some r ∧ st'.marks = st.marks ∧ st.H.next ≤ st'.H.next ∧ ∀ (ρ : Loc) (a : Act) (w : World) (ro : Option Nat) (id : Nat) (Q : Exit → Act → World → Prop), SRel ρ st a w → Fresh ρ st.H.next st'.H.next →
      (∀ ρ' a' w', SRel ρ' st' a' w' → Step ρ st.H w ρ' st'.H w' → Q .normal a' w') → (Code.region id ops draw).wpIn (FF ro) 0 P Q a w
def RoRel (ρ : Loc) (ro rr : Option Nat) : Prop :=
  match ro, rr with
  | none, none => True
  | some l, some b => ρ l = some (b, 0)
  | _, _ => False
theorem RoRel.mono {ρ ρ' : Loc} (h : ρ.le ρ') {ro rr : Option Nat} (k : RoRel ρ ro rr) : RoRel ρ' ro rr := by
  cases ro <;> cases rr <;> first | exact k | exact h.loc _ _ k
def CodeSim (P : Program) (ro : Option Nat) (c : Code) (st : St) (ex : Exit) (st' : St) : Prop :=
  ∀ (ρ : Loc) (rr : Option Nat) (a : Act) (w : World) (Q : Exit → Act → World → Prop), RoRel ρ ro rr → SRel ρ st a w → Fresh ρ st.H.next st'.H.next →
    (∀ ρ' a' w', SRel ρ' st' a' w' → Step ρ st.H w ρ' st'.H w' → Q ex a' w') → c.wpIn (FF rr) 0 P Q a w
theorem wpIn_scope_straight {F : Fence} {n : Nat} {Q : Exit → Act → World → Prop} {a : Act} {w : World} {c : Code} (h : c.wpIn F n P (Exit.noGoto Q) a w) : (Code.scope c).wpIn F n P Q a w := by
  intro b k cs hro hb hr
  have s0 : StepsIn (Machine.fenced P F) P (lone (b.atR a (.code (.scope c) :: k)) cs w) (lone (b.atR a (.code c :: .inScope c :: k)) cs w) :=
    .one (fenced_calm hb hr rfl) (step_lone_go (by simp [stepG, stepG.exec, Frame.atR]))
  obtain ⟨e, a₁, w₁, hq, harr⟩ := h b (.inScope c :: k) cs hro hb hr
  cases e with
  | normal => exact ⟨.normal, a₁, w₁, hq, s0.trans (StepsIn.trans harr (.one (fenced_calm (fr := b.atR a₁ (.inScope c :: k)) hb hr rfl) (step_lone_go (by simp [stepG, stepG.exec, Frame.atR]))))⟩
  | exit id => exact ⟨.exit id, a₁, w₁, hq, fun k' hk => s0.trans (harr.1 k' (by simp [exitTo, hk])), fun hr' hk => let ⟨k₁, h1, h2⟩ := harr.2 hr' (by simp [exitTo, hk]); ⟨k₁, h1, s0.trans h2⟩⟩
  | goto l => exact hq.elim
  | ret => exact ⟨_, a₁, w₁, hq, .of_steps s0 (b := b) (k := k) (e := .ret) harr⟩
  | panic ch => exact ⟨_, a₁, w₁, hq, .of_steps s0 (b := b) (k := k) (e := .panic ch) harr⟩
  | outgrown => exact ⟨_, a₁, w₁, hq, .of_steps s0 (b := b) (k := k) (e := .outgrown) harr⟩
theorem alloc_grown (w : World) (o : Obj) : Grown w (w.alloc o) o := grown_of w _ o rfl
theorem put_turned {w : World} {l : Nat} {o o' : Obj} (h : w.heap[l]? = some o) (hc : clen o = clen o') : Turned w (w.putObj l o') l o' := turned_obj h o' hc
/-- the record of a loop, as the machine has it -/
theorem loop_there {ρ : Loc} {H : AHeap} {w : World} (hH : HRel ρ H w) {l : Nat} {st : LoopState} {pend : Option Code} {fn : FuncId} {tm : List Value} {ps : Array Tmp} {ag bd : Code} {d : Nat} (h : H.get l = some (.loop st pend fn tm ps ag bd d)) :
    ∃ b L, ρ l = some (b, 0) ∧ w.heap[b]? = some (.loop L) ∧ L.state = st ∧ L.pending = pend ∧ LRel ρ tm L.tmps.toList ∧ L.params = ps ∧ L.assign = ag ∧ L.body = bd ∧ ρ d = some (L.defers, 0) := by
  obtain ⟨b, s, r, h1, h2, h3⟩ := hH.obj l _ h
  cases r with
  | loop L =>
    obtain ⟨rfl, h4⟩ := h3
    exact ⟨b, L, h1, h2, h4⟩
  | _ => exact h3.elim
theorem loop_put {ρ : Loc} {H : AHeap} {w : World} (hH : HRel ρ H w) {l : Nat} {st st' : LoopState} {pend pend' : Option Code} {fn : FuncId} {tm : List Value} {ps : Array Tmp} {ag bd : Code} {d b : Nat} {L : Loop} (h : H.get l = some (.loop st pend fn tm ps ag bd d))
    (hb : ρ l = some (b, 0)) (hw : w.heap[b]? = some (.loop L)) : Step ρ H w ρ (H.put l (some (.loop st' pend' fn tm ps ag bd d))) (w.putObj b (.loop { L with state := st', pending := pend' })) := by
  obtain ⟨b', L', e1, e2, h3, h4, h5, h6, h7, h8, h9⟩ := loop_there hH h
  rw [hb] at e1; cases e1
  rw [hw] at e2; cases e2
  exact Step.put hH h rfl hb (put_turned hw rfl) ⟨rfl, rfl, rfl, h5, h6, h7, h8, h9⟩ rfl
theorem iter_sound {R : Type} {ro : Option Nat} {c : Code} {ev : St → (Exit → St → Option R) → Option R}
    (hc : ∀ st k r, ev st k = some r → ∃ ex st', k ex st' = some r ∧ st.H.next ≤ st'.H.next ∧ CodeSim P ro c st ex st') : ∀ (n : Nat) (st : St) (k : Exit → St → Option R) (r : R), iter ev k n st = some r →
    ∃ ex st', k ex st' = some r ∧ st.H.next ≤ st'.H.next ∧ ∀ (ρ : Loc) (rr : Option Nat) (a : Act) (w : World) (Q : Exit → Act → World → Prop), RoRel ρ ro rr → SRel ρ st a w → Fresh ρ st.H.next st'.H.next →
      (∀ ρ' a' w', SRel ρ' st' a' w' → Step ρ st.H w ρ' st'.H w' → Q ex a' w') → Code.roundsIn (FF rr) 0 P c Q n a w
  | 0, st, k, r, h => by cases h
  | n + 1, st, k, r, h => by
    have h : ev st (fun ex st => match ex with
      | .normal => iter ev k n st
      | ex => k ex st) = some r := h
    obtain ⟨ex, st1, hk, hn, hs⟩ := hc _ _ _ h
    have out : ∀ ex, ex ≠ .normal → k ex st1 = some r → CodeSim P ro c st ex st1 → ∃ ex st', k ex st' = some r ∧ st.H.next ≤ st'.H.next ∧ ∀ (ρ : Loc) (rr : Option Nat) (a : Act) (w : World) (Q : Exit → Act → World → Prop), RoRel ρ ro rr → SRel ρ st a w → Fresh ρ st.H.next st'.H.next →
      (∀ ρ' a' w', SRel ρ' st' a' w' → Step ρ st.H w ρ' st'.H w' → Q ex a' w') → Code.roundsIn (FF rr) 0 P c Q (n + 1) a w := fun ex hne hk hs =>
      ⟨ex, st1, hk, hn, fun ρ rr a w Q hr hS hF hQ => hs ρ rr a w _ hr hS hF (fun ρ' a' w' hS' hst => by cases ex <;> first | exact absurd rfl hne | exact hQ ρ' a' w' hS' hst)⟩
    cases ex with
    | normal =>
      obtain ⟨ex, st2, hk2, hn2, hs2⟩ := iter_sound hc n st1 k r hk
      refine ⟨ex, st2, hk2, Nat.le_trans hn hn2, fun ρ rr a w Q hr hS hF hQ => ?_⟩
      refine hs ρ rr a w _ hr hS (hF.le hn2) (fun ρ1 a1 w1 hS1 hst1 => ?_)
      exact hs2 ρ1 rr a1 w1 Q (hr.mono (hst1.le hS.heap (hF.le hn2))) hS1 (hst1.fresh hF) (fun ρ2 a2 w2 hS2 hst2 => hQ ρ2 a2 w2 hS2 (hst1.trans hst2))
    | exit id => exact out _ (by simp) hk hs
    | goto l => exact out _ (by simp) hk hs
    | ret => exact out _ (by simp) hk hs
    | panic ch => exact out _ (by simp) hk hs
    | outgrown => exact out _ (by simp) hk hs
theorem range_sound {R : Type} {callF : CallF R} (hcall : CallOk P callF) {ro : Option Nat} {st : St} {k : Exit → St → Option R} {r : R} {f : Operand} {g : FuncId} {fa fb : Array Value} {marks : List Nat} {l : Nat} {H2 : AHeap} {ps : Array Tmp} {ag bd : Code}
    (hok : okOperand f = true) (hf : evT st.tm f = .func (.func g) fa fb) (hn : st.H.next ≤ H2.next)
    (h : callF (.fn g) (fa.toList ++ [.func (.yield l) #[] #[]] ++ fb.toList) H2 (fun _ H => match H.get l with
          | some (.loop .busy _ _ _ _ _ _ _) => none
          | some (.loop _ pend fn tm ps assign body d) => H.putK l (some (.loop .exhausted pend fn tm ps assign body d)) fun H => match pend with
            | none => k .normal { tm := st.tm, marks, H }
            | some .ret => k .ret { tm := st.tm, marks, H }
            | some (.exit id) => k (.exit id) { tm := st.tm, marks, H }
            | _ => none
          | _ => none) = some r)
    (henter : ∀ (ρ : Loc) (rr : Option Nat) (ar : Act) (w : World) (fn : FuncId), RoRel ρ ro rr → SRel ρ st ar w → Fresh ρ st.H.next H2.next → ∃ bl mark w2 ρ2, (Instr.enterLoop fn ar.tmps ps ag bd rr).run P w = .ok (bl, mark) w2 ∧ Step ρ st.H w ρ2 H2 w2 ∧ ρ2 l = some (bl, 0) ∧ MRel ρ2 marks (mark ++ ar.defers)) :
    ∃ ex st', k ex st' = some r ∧ st.H.next ≤ st'.H.next ∧ CodeSim P ro (.rangeFunc f ps ag bd) st ex st' := by
  obtain ⟨v, H3, hk, hn3, hsim⟩ := hcall _ _ _ _ _ h
  -- what the walk owes
  have main : ∀ (ex : Exit) (st0 : LoopState) (pend : Option Code) (fn0 : FuncId) (tm0 : List Value) (ps0 : Array Tmp) (ag0 bd0 : Code) (d0 : Nat), H3.get l = some (.loop st0 pend fn0 tm0 ps0 ag0 bd0 d0) → st0 ≠ .busy →
      (match pend with | none => ex = .normal | some .ret => ex = .ret | some (.exit id) => ex = .exit id | _ => False) →
      CodeSim P ro (.rangeFunc f ps ag bd) st ex { tm := st.tm, marks, H := H3.put l (some (.loop .exhausted pend fn0 tm0 ps0 ag0 bd0 d0)) } := by
    intro ex st0 pend fn0 tm0 ps0 ag0 bd0 d0 hg hb hp ρ rr ar w Q hr hS hF hQ
    have hF2 : Fresh ρ st.H.next H2.next := hF.le hn3
    refine wpIn_rangeFunc (fun fn _ => ?_)
    obtain ⟨bl, mark, w2, ρ2, hrun, hst2, hl2, hm2⟩ := henter ρ rr ar w fn hr hS hF2
    have hle2 := hst2.le hS.heap hF2
    have hfr := eval_rel hS.tm f hok
    rw [hf] at hfr
    obtain ⟨g', fa', fb', hev, hfn, ha', hb'⟩ := hfr.funcSome
    rcases hfn with ⟨_, _, e, _, _⟩ | ⟨rfl, _, _⟩
    · cases e
    have hargs : LRel ρ2 (fa.toList ++ [.func (.yield l) #[] #[]] ++ fb.toList) (fa' ++ #[Value.func (.yield bl) #[] #[]] ++ fb').toList := by
      simp only [Array.toList_append]
      refine ((ha'.mono hle2).append ?_).append (hb'.mono hle2)
      exact LRel.cons (VRel.func (a := #[]) (a' := #[]) (b := #[]) (b' := #[]) (.inl ⟨l, bl, rfl, rfl, hl2⟩) rfl (fun _ _ _ h => by simp at h) rfl (fun _ _ _ h => by simp at h)) (LRel.nil ρ2)
    obtain ⟨hen, hcl⟩ := hsim ρ2 w2 (fa' ++ #[.func (.yield bl) #[] #[]] ++ fb') hst2.rel (hst2.fresh hF) hargs
    refine ⟨bl, mark, w2, { target := .fn (.func g) fb', args := fa' ++ #[.func (.yield bl) #[] #[]] }, w2, g, fa' ++ #[.func (.yield bl) #[] #[]] ++ fb', w2, hrun, ?_, fun _ _ => trivial, ?_, fun h => absurd h (by simp [FF]), ?_⟩
    · have hmap : (#[Operand.const (.func (.yield bl) #[] #[])] : Array Operand).map ar.eval = #[Value.func (.yield bl) #[] #[]] := by simp [Act.eval]
      simp only [resolve, Sem.run_bind, Sem.run_pure, Result.andThen_ok, hev, Deferred.ofValue, hmap]
    · simp only [invoke]; exact hen w2
    · refine CallsIn.mono (F := FF rr) (n := 0) (show CallsIn (FF rr) 0 P g _ w2 _ from hcl) ?_
      rintro e w3 ⟨ρ3, vr, rfl, hv, hst3⟩
      obtain ⟨b, L, hb1, hw1, hs1, hp1, _⟩ := loop_there hst3.rel hg
      have hle3 := hst3.le hst2.rel (hst2.fresh hF)
      have hbl : ρ3 l = some (bl, 0) := hle3.loc _ _ hl2
      rw [hb1] at hbl; cases hbl
      have hput := loop_put (st' := .exhausted) (pend' := pend) hst3.rel hg hb1 hw1
      have hrun2 : (Instr.endLoop bl).run P w3 = .ok pend (w3.putObj bl (.loop { L with state := .exhausted, pending := pend })) := by
        have := run_endLoop (P := P) hw1 (by rw [hs1]; exact hb)
        rw [hp1] at this
        rw [this]
      refine ⟨pend, w3.putObj bl (.loop { L with state := .exhausted, pending := pend }), hrun2, ?_⟩
      have hfin := hQ ρ3 { ar with defers := mark ++ ar.defers } _ ⟨hS.tm.mono (Loc.le_trans hle2 hle3), hm2.mono hle3, hput.rel⟩ (hst2.trans (hst3.trans hput))
      clear hrun2 hput hp1 hg hk
      cases pend with
      | none => rw [hp] at hfin; exact hfin
      | some c => cases c <;> first | exact hp.elim | (rw [hp] at hfin; exact wpIn_ret hfin) | (rw [hp] at hfin; exact wpIn_exit hfin)
  have hnn : ∀ o, st.H.next ≤ (H3.put l o).next := fun o => Nat.le_trans hn hn3
  split at hk
  · cases hk
  · rename_i st0 pend fn0 tm0 ps0 ag0 bd0 d0 hne hg
    rw [AHeap.putK_eq] at hk
    have hb : st0 ≠ .busy := hne
    split at hk
    · exact ⟨.normal, _, hk, hnn _, main .normal _ _ _ _ _ _ _ _ hg hb rfl⟩
    · exact ⟨.ret, _, hk, hnn _, main .ret _ _ _ _ _ _ _ _ hg hb rfl⟩
    · exact ⟨.exit _, _, hk, hnn _, main (.exit _) _ _ _ _ _ _ _ _ hg hb rfl⟩
    · cases hk
  · cases hk
theorem evC_sound {R : Type} {callF : CallF R} (hcall : CallOk P callF) (hreg : RegionOk P callF) (ro : Option Nat) (n : Nat) (c : Code) : ∀ (st : St) (k : Exit → St → Option R) (r : R), evC P callF ro n c st k = some r →
    ∃ ex st', k ex st' = some r ∧ st.H.next ≤ st'.H.next ∧ CodeSim P ro c st ex st' := by
  induction c with
  | skip => intro st k r h; exact ⟨.normal, st, h, Nat.le_refl _, fun ρ rr a w Q _ hS _ hQ => wpIn_skip (hQ ρ a w hS (Step.refl hS.heap))⟩
  | label l => intro st k r h; exact ⟨.normal, st, h, Nat.le_refl _, fun ρ rr a w Q _ hS _ hQ => wpIn_label (hQ ρ a w hS (Step.refl hS.heap))⟩
  | exit id => intro st k r h; exact ⟨.exit id, st, h, Nat.le_refl _, fun ρ rr a w Q _ hS _ hQ => wpIn_exit (hQ ρ a w hS (Step.refl hS.heap))⟩
  | ret => intro st k r h; exact ⟨.ret, st, h, Nat.le_refl _, fun ρ rr a w Q _ hS _ hQ => wpIn_ret (hQ ρ a w hS (Step.refl hS.heap))⟩
  | goto l => intro st k r h; cases h
  | refuse s => intro st k r h; cases h
  | region id ops draw =>
    intro st k r h
    obtain ⟨st', hk, hm, hn, hs⟩ := hreg ops draw st _ r h
    exact ⟨.normal, st', hk, hn, fun ρ rr a w Q _ hS hF hQ => hs ρ a w rr id Q hS hF hQ⟩
  | seq x y ihx ihy =>
    intro st k r h
    have h : evC P callF ro n x st (fun ex st => match ex with
      | .normal => evC P callF ro n y st k
      | ex => k ex st) = some r := h
    obtain ⟨ex, st1, hk, hn, hs⟩ := ihx _ _ _ h
    have out : ∀ ex, ex ≠ .normal → k ex st1 = some r → CodeSim P ro x st ex st1 → ∃ ex st', k ex st' = some r ∧ st.H.next ≤ st'.H.next ∧ CodeSim P ro (.seq x y) st ex st' := fun ex hne hk hs =>
      ⟨ex, st1, hk, hn, fun ρ rr a w Q hr hS hF hQ => wpIn_seq (hs ρ rr a w _ hr hS hF (fun ρ' a' w' hS' hst => by cases ex <;> first | exact absurd rfl hne | exact hQ ρ' a' w' hS' hst))⟩
    cases ex with
    | normal =>
      obtain ⟨ex, st2, hk2, hn2, hs2⟩ := ihy _ _ _ hk
      refine ⟨ex, st2, hk2, Nat.le_trans hn hn2, fun ρ rr a w Q hr hS hF hQ => wpIn_seq ?_⟩
      refine hs ρ rr a w _ hr hS (hF.le hn2) (fun ρ1 a1 w1 hS1 hst1 => ?_)
      exact hs2 ρ1 rr a1 w1 Q (hr.mono (hst1.le hS.heap (hF.le hn2))) hS1 (hst1.fresh hF) (fun ρ2 a2 w2 hS2 hst2 => hQ ρ2 a2 w2 hS2 (hst1.trans hst2))
    | exit id => exact out _ (by simp) hk hs
    | goto l => exact out _ (by simp) hk hs
    | ret => exact out _ (by simp) hk hs
    | panic ch => exact out _ (by simp) hk hs
    | outgrown => exact out _ (by simp) hk hs
  | cond c x y ihx ihy =>
    intro st k r h
    have h : (bif okOperand c then (match evT st.tm c with
      | .bool true => evC P callF ro n x st k
      | .bool false => evC P callF ro n y st k
      | _ => none) else none) = some r := h
    cases hok : okOperand c with
    | false => rw [hok] at h; cases h
    | true =>
      rw [hok] at h
      simp only [cond_true] at h
      split at h
      · rename_i he
        obtain ⟨ex, st1, hk, hn, hs⟩ := ihx _ _ _ h
        refine ⟨ex, st1, hk, hn, fun ρ rr a w Q hr hS hF hQ => ?_⟩
        have := eval_rel hS.tm c hok; rw [he] at this
        exact wpIn_cond_true this.bool (hs ρ rr a w Q hr hS hF hQ)
      · rename_i he
        obtain ⟨ex, st1, hk, hn, hs⟩ := ihy _ _ _ h
        refine ⟨ex, st1, hk, hn, fun ρ rr a w Q hr hS hF hQ => ?_⟩
        have := eval_rel hS.tm c hok; rw [he] at this
        exact wpIn_cond_false this.bool (hs ρ rr a w Q hr hS hF hQ)
      · cases h
  | block id b ih =>
    intro st k r h
    have h : evC P callF ro n b st (fun ex st => match ex with
      | .exit j => bif Nat.beq j id then k .normal st else k (.exit j) st
      | ex => k ex st) = some r := h
    obtain ⟨ex, st1, hk, hn, hs⟩ := ih _ _ _ h
    cases ex with
    | exit j =>
      simp only at hk
      by_cases e : j = id
      · rw [(Tr.beq_iff j id).2 e] at hk
        refine ⟨.normal, st1, hk, hn, fun ρ rr a w Q hr hS hF hQ => wpIn_block (hs ρ rr a w _ hr hS hF (fun ρ' a' w' hS' hst => ?_))⟩
        simp only [Exit.inBlock, e, if_true]; exact hQ ρ' a' w' hS' hst
      · rw [(Tr.beq_false j id).2 e] at hk
        refine ⟨.exit j, st1, hk, hn, fun ρ rr a w Q hr hS hF hQ => wpIn_block (hs ρ rr a w _ hr hS hF (fun ρ' a' w' hS' hst => ?_))⟩
        simp only [Exit.inBlock, e, if_false]; exact hQ ρ' a' w' hS' hst
    | normal => exact ⟨.normal, st1, hk, hn, fun ρ rr a w Q hr hS hF hQ => wpIn_block (hs ρ rr a w _ hr hS hF hQ)⟩
    | goto l => exact ⟨.goto l, st1, hk, hn, fun ρ rr a w Q hr hS hF hQ => wpIn_block (hs ρ rr a w _ hr hS hF hQ)⟩
    | ret => exact ⟨.ret, st1, hk, hn, fun ρ rr a w Q hr hS hF hQ => wpIn_block (hs ρ rr a w _ hr hS hF hQ)⟩
    | panic ch => exact ⟨.panic ch, st1, hk, hn, fun ρ rr a w Q hr hS hF hQ => wpIn_block (hs ρ rr a w _ hr hS hF hQ)⟩
    | outgrown => exact ⟨.outgrown, st1, hk, hn, fun ρ rr a w Q hr hS hF hQ => wpIn_block (hs ρ rr a w _ hr hS hF hQ)⟩
  | loop b ih =>
    intro st k r h
    have h : iter (evC P callF ro n b) k n st = some r := h
    obtain ⟨ex, st', hk, hn, hs⟩ := iter_sound ih n st k r h
    exact ⟨ex, st', hk, hn, fun ρ rr a w Q hr hS hF hQ => wpIn_loop_rounds n (hs ρ rr a w Q hr hS hF hQ)⟩
  | scope b ih =>
    intro st k r h
    have h : evC P callF ro n b st (fun ex st => match ex with
      | .goto _ => none
      | ex => k ex st) = some r := h
    obtain ⟨ex, st1, hk, hn, hs⟩ := ih _ _ _ h
    cases ex with
    | goto l => cases hk
    | normal => exact ⟨.normal, st1, hk, hn, fun ρ rr a w Q hr hS hF hQ => wpIn_scope_straight (hs ρ rr a w _ hr hS hF hQ)⟩
    | exit id => exact ⟨.exit id, st1, hk, hn, fun ρ rr a w Q hr hS hF hQ => wpIn_scope_straight (hs ρ rr a w _ hr hS hF hQ)⟩
    | ret => exact ⟨.ret, st1, hk, hn, fun ρ rr a w Q hr hS hF hQ => wpIn_scope_straight (hs ρ rr a w _ hr hS hF hQ)⟩
    | panic ch => exact ⟨.panic ch, st1, hk, hn, fun ρ rr a w Q hr hS hF hQ => wpIn_scope_straight (hs ρ rr a w _ hr hS hF hQ)⟩
    | outgrown => exact ⟨.outgrown, st1, hk, hn, fun ρ rr a w Q hr hS hF hQ => wpIn_scope_straight (hs ρ rr a w _ hr hS hF hQ)⟩
  | rangeFunc f ps ag bd _ _ =>
    intro st k r h
    have h : (bif okOperand f then
      rangeStart (evT st.tm f) ro ps ag bd st fun marks l g args H =>
        callF (.fn g) args H fun _ H => match H.get l with
          | some (.loop .busy _ _ _ _ _ _ _) => none
          | some (.loop _ pend fn tm ps assign body d) => H.putK l (some (.loop .exhausted pend fn tm ps assign body d)) fun H => match pend with
            | none => k .normal { tm := st.tm, marks, H }
            | some .ret => k .ret { tm := st.tm, marks, H }
            | some (.exit id) => k (.exit id) { tm := st.tm, marks, H }
            | _ => none
          | _ => none
      else none) = some r := h
    cases hok : okOperand f with
    | false => rw [hok] at h; cases h
    | true =>
      rw [hok] at h
      simp only [cond_true] at h
      unfold rangeStart at h
      split at h
      · rename_i g fa fb hf
        cases ro with
        | none =>
          rw [AHeap.newK_eq, AHeap.newK_eq] at h
          refine range_sound hcall hok hf (by rw [AHeap.next_new, AHeap.next_new]; omega) h (fun ρ rr ar w fn hr hS hF => ?_)
          cases rr with
          | some _ => exact hr.elim
          | none =>
            have f0 : ρ st.H.next = none := hF _ (Nat.le_refl _) (by rw [AHeap.next_new, AHeap.next_new]; omega)
            have s1 := Step.new hS.heap f0 (o := .marked) (alloc_grown w (.deferred (some []))) rfl
            have hF1 := s1.fresh hF
            have f1 := hF1 (st.H.new .marked).next (Nat.le_refl _) (by rw [AHeap.next_new (st.H.new _)]; omega)
            have s2 := Step.new s1.rel f1 (o := .loop .ready none g st.tm ps ag bd st.H.next)
              (alloc_grown (w.alloc (.deferred (some []))) (.loop { state := .ready, pending := none, fn, tmps := ar.tmps, params := ps, assign := ag, body := bd, defers := w.heap.size })) (by
                have l1 := upd_le hS.heap (s := 0) (n := clen (.deferred (some []))) f0
                have l2 := upd_le s1.rel (s := 0) (n := clen (.loop { state := .ready, pending := none, fn, tmps := ar.tmps, params := ps, assign := ag, body := bd, defers := w.heap.size })) f1
                exact ⟨rfl, rfl, rfl, hS.tm.mono (Loc.le_trans l1 l2), rfl, rfl, rfl, l2.loc _ _ (upd_same _ _ _ _)⟩)
            have hle := (s1.trans s2).le hS.heap hF
            refine ⟨w.heap.size + 1, _, _, _, run_enterLoop_outer fn ar.tmps ps ag bd, s1.trans s2, ?_, ?_⟩
            · have : (w.alloc (.deferred (some []))).heap.size = w.heap.size + 1 := World.size_alloc _ _
              rw [← this]; exact upd_same _ _ _ _
            · refine ⟨⟨w.heap.size, ?_, rfl⟩, hS.marks.mono hle⟩
              rw [upd_other _ _ _ (by rw [AHeap.next_new]; omega)]; exact upd_same _ _ _ _
        | some l0 =>
          simp only at h
          split at h
          · rename_i d hg
            rw [AHeap.newK_eq] at h
            refine range_sound hcall hok hf (by rw [AHeap.next_new]; omega) h (fun ρ rr ar w fn hr hS hF => ?_)
            cases rr with
            | none => exact hr.elim
            | some b0 =>
              obtain ⟨b, L, e1, hw, _, _, _, _, _, _, hd⟩ := loop_there hS.heap hg
              rw [show ρ l0 = some (b0, 0) from hr] at e1; cases e1
              have f0 : ρ st.H.next = none := hF _ (Nat.le_refl _) (by rw [AHeap.next_new]; omega)
              have s1 := Step.new hS.heap f0 (o := .loop .ready none g st.tm ps ag bd d)
                (alloc_grown w (.loop { state := .ready, pending := none, fn, tmps := ar.tmps, params := ps, assign := ag, body := bd, defers := L.defers })) (by
                  have l1 := upd_le hS.heap (s := 0) (n := clen (.loop { state := .ready, pending := none, fn, tmps := ar.tmps, params := ps, assign := ag, body := bd, defers := L.defers })) f0
                  exact ⟨rfl, rfl, rfl, hS.tm.mono l1, rfl, rfl, rfl, l1.loc _ _ hd⟩)
              exact ⟨w.heap.size, [], _, _, run_enterLoop_inner hw fn ar.tmps ps ag bd, s1, upd_same _ _ _ _, hS.marks.mono (s1.le hS.heap hF)⟩
          · cases h
      · cases h
end
end Go.Ab
