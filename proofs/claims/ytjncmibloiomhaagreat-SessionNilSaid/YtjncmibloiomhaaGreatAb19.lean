/-
  Calls.
-/
import Derived.Test.YtjncmibloiomhaaGreatAb18
namespace Go.Ab
section
variable {P : Program}
/-- the table holds the program's own bodies -/
structure TabOk (P : Program) (fns : FuncId → Option FnE) : Prop where
  ok : ∀ f fe, fns f = some fe → ∃ fn, P.funcs[f]? = some fn ∧ fn.body = some fe.code ∧ fn.ntmps = fe.ntmps ∧ fn.results.toList = fe.results ∧ (fn.name == "runtime.NumGoroutine") = false
theorem foldSet_eq {R : Type} : ∀ (ps : List Tmp) (vs tm : List Value) (k : List Value → Option R), foldSet ps vs tm k = k ((ps.zip vs).foldl (fun tm x => tm.set x.1 x.2) tm)
  | [], vs, tm, k => by cases vs <;> rfl
  | p :: ps, [], tm, k => rfl
  | p :: ps, v :: vs, tm, k => by
    show setK tm p v (fun tm => foldSet ps vs tm k) = _
    rw [setK_eq, foldSet_eq]
    rfl
theorem foldSet_rel {ρ : Loc} : ∀ (ps : List Tmp) (vs vs' tm : List Value) (a : Array Value), LRel ρ vs vs' → LRel ρ tm a.toList → LRel ρ ((ps.zip vs).foldl (fun tm x => tm.set x.1 x.2) tm) ((ps.zip vs').foldl (fun (tm : Array Value) x => tm.setIfInBounds x.1 x.2) a).toList
  | [], vs, vs', tm, a, _, h => by simpa using h
  | p :: ps, [], [], tm, a, _, h => by simpa using h
  | p :: ps, [], v :: vs', tm, a, h, _ => by have := h.1; simp at this
  | p :: ps, v :: vs, [], tm, a, h, _ => by have := h.1; simp at this
  | p :: ps, v :: vs, v' :: vs', tm, a, h, ht => by
    have h0 : VRel ρ v v' := h.2 0 v v' rfl rfl
    have h1 : LRel ρ vs vs' := ⟨by have := h.1; simpa using this, fun i x y hx hy => h.2 (i + 1) x y (by simpa using hx) (by simpa using hy)⟩
    simp only [List.zip_cons_cons, List.foldl_cons]
    refine foldSet_rel ps vs vs' _ _ h1 ?_
    rw [Array.toList_setIfInBounds]
    exact ht.set p h0
def resRun (a : Array Value) : ResultVar → Sem Value
  | .tmp t => pure (a.getD t undef)
  | .cell c t => do loadVar t (← asAddr (a.getD c undef))
theorem results_eq (fn : Func) (a : Array Value) : results fn a = (do
    let vs ← fn.results.mapM (resRun a)
    pure (if h : vs.size = 1 then vs[0] else .tuple vs)) := by
  unfold results
  congr 1
theorem resultsA_sound {ρ : Loc} {tm : List Value} {a : Array Value} {H : AHeap} {w : World} (ht : LRel ρ tm a.toList) (hH : HRel ρ H w) : ∀ {rs : List ResultVar} {vs : List Value}, resultsA P tm H rs = some vs →
    ∃ vr : List Value, LRel ρ vs vr ∧ (rs.mapM (resRun a)).run P w = .ok vr w
  | [], vs, h => by
    cases h
    exact ⟨[], LRel.nil ρ, by simp [Sem.run_pure]⟩
  | r :: rs, vs, h => by
    unfold resultsA at h
    split at h
    · rename_i v vs' hv hvs
      cases h
      obtain ⟨vr, hl, hrun⟩ := resultsA_sound ht hH hvs
      have one : ∃ x, VRel ρ v x ∧ (resRun a r).run P w = .ok x w := by
        cases r with
        | tmp t => cases hv; exact ⟨_, getD_rel ht t, by simp [resRun, Sem.run_pure]⟩
        | cell c t =>
          obtain ⟨x, ad, hx, he, hrun⟩ := loadA_sound hv hH (getD_rel ht c)
          refine ⟨x, hx, ?_⟩
          simp only [resRun, he, asAddr, Sem.run_bind, Sem.run_pure, Result.andThen_ok, hrun]
      obtain ⟨x, hx, hr1⟩ := one
      refine ⟨x :: vr, LRel.cons hx hl, ?_⟩
      simp only [List.mapM_cons, Sem.run_bind, hr1, Result.andThen_ok, hrun, Sem.run_pure]
    · cases h
theorem results_sound {ρ : Loc} {tm : List Value} {a : Array Value} {H : AHeap} {w : World} (ht : LRel ρ tm a.toList) (hH : HRel ρ H w) {fn : Func} {rs : List ResultVar} (hrs : fn.results.toList = rs) {vs : List Value} (h : resultsA P tm H rs = some vs) :
    ∃ vr, VRel ρ (tupled vs) vr ∧ (results fn a).run P w = .ok vr w := by
  subst hrs
  obtain ⟨vr, hl, hrun⟩ := resultsA_sound ht hH h
  refine ⟨if h : vr.toArray.size = 1 then vr.toArray[0] else .tuple vr.toArray, ?_, ?_⟩
  · match vs, vr, hl with
    | [], [], hl => exact VRel.tuple' (a := ⟨[]⟩) (a' := ⟨[]⟩) hl
    | [v], [x], hl => exact hl.2 0 v x rfl rfl
    | v :: v2 :: vs, x :: x2 :: xs, hl =>
      have : ¬ (x :: x2 :: xs).toArray.size = 1 := by simp
      rw [dif_neg this]
      exact VRel.tuple' (a := ⟨v :: v2 :: vs⟩) (a' := ⟨x :: x2 :: xs⟩) hl
    | [], _ :: _, hl => have := hl.1; simp at this
    | _ :: _, [], hl => have := hl.1; simp at this
    | [_], _ :: _ :: _, hl => have := hl.1; simp at this
    | _ :: _ :: _, [_], hl => have := hl.1; simp at this
  · rw [results_eq, Array.mapM_eq_mapM_toList]
    simp only [Sem.run_bind, Sem.run_map, hrun, Result.andThen_ok, Sem.run_pure]
theorem leaves_sound {R : Type} : ∀ (ms : List Nat) (H : AHeap) (k : AHeap → Option R) (r : R), takeMarks ms H k = some r → ∃ H', k H' = some r ∧ H.next = H'.next ∧
    ∀ (fn : Func) (tmps : Array Value) (E : Ending → World → Prop) (ρ : Loc) (w : World) (ds : List Deferred), HRel ρ H w → MRel ρ ms ds → (∀ w', Step ρ H w ρ H' w' → ∃ v, (results fn tmps).run P w' = .ok v w' ∧ E (.returned v) w') → LeavesInM Fence.wide 0 P fn tmps E ds .returning w
  | [], H, k, r, h => ⟨H, h, rfl, fun fn tmps E ρ w ds hH hm hE => by
    cases ds with
    | nil => exact hE w (Step.refl hH)
    | cons _ _ => exact hm.elim⟩
  | d :: ms, H, k, r, h => by
    unfold takeMarks at h
    split at h
    · rename_i hg
      rw [AHeap.putK_eq] at h
      obtain ⟨H', hk, hn, hs⟩ := leaves_sound ms _ k r h
      refine ⟨H', hk, by rw [← hn, AHeap.next_put], fun fn tmps E ρ w ds hH hm hE => ?_⟩
      cases ds with
      | nil => exact hm.elim
      | cons x ds =>
        obtain ⟨⟨b, hb, rfl⟩, hm⟩ := hm
        obtain ⟨b', s, o, e1, hw, ho⟩ := hH.obj d _ hg
        rw [hb] at e1; cases e1
        have hw' : w.heap[b]? = some (.deferred (some [])) := by
          cases o with
          | deferred x =>
            cases x with
            | none => exact ho.elim
            | some l => cases l with
              | nil => exact hw
              | cons _ _ => exact ho.elim
          | _ => exact ho.elim
        have hst := Step.put (o' := .shut) hH hg rfl hb (put_turned (o' := .deferred none) hw' rfl) rfl rfl
        refine ⟨by simp, .inl ⟨b, _, rfl, run_takeDeferred hw', ?_⟩⟩
        exact hs fn tmps E ρ _ ds hst.rel hm (fun w' hw' => hE w' (hst.trans hw'))
    · cases h
/-- what a round leaves behind, by the way out of its body -/
def JumpOk : Exit → Option Code → Prop
  | .normal, none => True
  | .ret, some .ret => True
  | .exit id, some (.exit id') => id = id'
  | _, _ => False
theorem jump_post {l : Nat} {E : Ending → World → Prop} {ex : Exit} {jump : Option Code} {a : Act} {w : World} (hj : JumpOk ex jump) (h : ∃ v w', (Instr.endRound l jump).run P w = .ok v w' ∧ E (.returned v) w') : roundPost P l E ex a w := by
  unfold JumpOk at hj
  split at hj
  · exact h
  · exact h
  · cases hj; exact h
  · exact hj.elim
/-- a call by an evaluator of calls one less deep -/
theorem callBody_sound {R : Type} {fns : FuncId → Option FnE} (hT : TabOk P fns) {callF : CallF R} (hcall : CallOk P callF) (hreg : RegionOk P callF) (n : Nat) : CallOk P (callBody P fns callF n) := by
  intro t args H k r h
  cases t with
  | fn f =>
    unfold callBody at h
    simp only at h
    cases hf : fns f with
    | none => rw [hf] at h; cases h
    | some fe =>
      rw [hf] at h
      simp only at h
      obtain ⟨fn, hfn, hbody, hnt, hres, hname⟩ := hT.ok f fe hf
      obtain ⟨ex, st', hk, hn, hs⟩ := evC_sound hcall hreg none n fe.code _ _ _ h
      have main : (ex = .normal ∨ ex = .ret) → (takeMarks st'.marks st'.H fun H => match resultsA P st'.tm H fe.results with
        | some vs => force (tupled vs) fun v => k v H
        | none => none) = some r → ∃ v H', k v H' = some r ∧ H.next ≤ H'.next ∧ CallSim P (.fn f) args H v H' := by
        intro hex hk
        obtain ⟨H', hk', hn', hl⟩ := leaves_sound (P := P) st'.marks st'.H _ r hk
        cases hr : resultsA P st'.tm H' fe.results with
        | none => rw [hr] at hk'; cases hk'
        | some vs =>
          rw [hr] at hk'
          simp only [force_eq] at hk'
          refine ⟨tupled vs, H', hk', by rw [← hn']; exact hn, fun ρ w ar hH hF hA => ⟨Go.Proofs.enters_of hfn hname hbody ar, ?_⟩⟩
          refine callsIn_of_wp_marks hfn hbody trivial ?_
          have hlen : args.length = ar.size := by have := hA.1; simpa using this
          refine hs ρ none _ w _ trivial ⟨?_, trivial, hH⟩ (by rw [hn']; exact hF) (fun ρ' a' w' hS hst => ?_)
          · simp only [Array.toList_append, Array.toList_replicate, hnt, hlen]
            exact hA.append ⟨by simp, fun i v x hv hx => by
              rw [List.getElem?_replicate] at hv hx
              split at hv
              · rename_i hi
                rw [if_pos hi] at hx; cases hv; cases hx; exact VRel.undef ρ
              · cases hv⟩
          · have hleave : LeavesInM Fence.wide 0 P fn a'.tmps (Back ρ H w (tupled vs) H') a'.defers .returning w' := by
              refine hl fn a'.tmps _ ρ' w' a'.defers hS.heap hS.marks (fun w2 hw2 => ?_)
              obtain ⟨vr, hvr, hrun⟩ := results_sound hS.tm hw2.rel hres hr
              exact ⟨vr, hrun, ρ', vr, rfl, hvr, hst.trans hw2⟩
            rcases hex with rfl | rfl <;> exact hleave
      cases ex with
      | normal => exact main (.inl rfl) hk
      | ret => exact main (.inr rfl) hk
      | _ => cases hk
  | yield l =>
    unfold callBody at h
    simp only at h
    split at h
    rotate_left
    · cases h
    rename_i st0 pend0 fn0 tm0 ps ag bd d hg
    split at h
    rotate_left
    · cases h
    rename_i hlen
    rw [foldSet_eq] at h
    obtain ⟨ex1, st1, hk1, hn1, hs1⟩ := evC_sound hcall hreg (some l) n ag _ _ _ h
    cases ex1 with
    | normal =>
      try simp only at hk1
      split at hk1
      rotate_left
      · cases hk1
      rename_i pend1 fn1 tm1 ps1 ag1 bd1 d1 hg1
      rw [AHeap.putK_eq] at hk1
      obtain ⟨ex2, st2, hk2, hn2, hs2⟩ := evC_sound hcall hreg (some l) n bd _ _ _ hk1
      try simp only at hk2
      split at hk2
      rotate_left
      · cases hk2
      rename_i st3 pend3 fn3 tm3 ps3 ag3 bd3 d3 hg3
      have main : ∀ (jump : Option Code) (ls : LoopState) (b : Bool), JumpOk ex2 jump → b = jump.isNone → ls = (if jump.isNone then .ready else .done) →
          CallSim P (.yield l) args H (.bool b) (st2.H.put l (some (.loop ls jump fn3 tm3 ps3 ag3 bd3 d3))) := by
        intro jump ls b hj hb hls ρ w ar hH hF hA bl hbl
        obtain ⟨b0, L, e1, hw, _, _, htm, hps, hag, hbd, _⟩ := loop_there hH hg
        rw [hbl] at e1; cases e1
        have hsz : ar.size = L.params.size := by
          have := hA.1; simp only [Array.length_toList] at this hlen; rw [hps, ← this]; exact hlen
        refine ⟨L.fn, _, L.assign, L.body, run_yield hw hsz, ?_⟩
        refine roundIn_of_wpIn trivial ?_
        have hF1 : Fresh ρ H.next st1.H.next := hF.le (by rw [AHeap.next_put]; exact hn2)
        rw [hag]
        refine hs1 ρ (some bl) _ w _ hbl ⟨?_, trivial, hH⟩ hF1 (fun ρ1 a1 w1 hS1 hst1 => ?_)
        · rw [← Array.foldl_toList, Array.toList_zip, hps]
          exact foldSet_rel ps.toList args ar.toList tm0 L.tmps hA htm
        · obtain ⟨b1, L1, e1, hw1, hst, hpd, _⟩ := loop_there hS1.heap hg1
          have hle1 := hst1.le hH hF1
          rw [hle1.loc _ _ hbl] at e1; cases e1
          refine ⟨_, run_beginRound hw1 hst, ?_⟩
          have hp1 := loop_put (st' := .busy) (pend' := pend1) hS1.heap hg1 (hle1.loc _ _ hbl) hw1
          have eL : ({ L1 with state := .busy } : Loop) = { L1 with state := .busy, pending := pend1 } := by cases L1; cases hpd; rfl
          rw [eL]
          have hstep1 := hst1.trans hp1
          rw [hbd]
          refine hs2 ρ1 (some bl) _ _ _ (hle1.loc _ _ hbl) ⟨hS1.tm, hS1.marks, hp1.rel⟩ ((hstep1.fresh hF).le (Nat.le_refl _)) (fun ρ2 a2 w2 hS2 hst2 => ?_)
          obtain ⟨b2, L2, e2, hw2, _⟩ := loop_there hS2.heap hg3
          have hle2 := (hstep1.trans hst2).le hH hF
          have hbl2 := hle2.loc _ _ hbl
          rw [hbl2] at e2; cases e2
          have hp2 := loop_put (st' := ls) (pend' := jump) hS2.heap hg3 hbl2 hw2
          have hend := run_endRound (P := P) jump hw2
          have hback : Back ρ H w (.bool b) (st2.H.put l (some (.loop ls jump fn3 tm3 ps3 ag3 bd3 d3))) (.returned (.bool jump.isNone)) (w2.putObj bl (.loop { L2 with state := if jump.isNone then .ready else .done, pending := jump })) :=
            ⟨ρ2, _, rfl, by rw [hb]; exact .plain _ rfl, by rw [← hls]; exact hstep1.trans (hst2.trans hp2)⟩
          exact jump_post hj ⟨_, _, hend, hback⟩
      have hnx : ∀ o, H.next ≤ (st2.H.put l o).next := fun o => by rw [AHeap.next_put]; exact Nat.le_trans hn1 (by rw [AHeap.next_put] at hn2; exact hn2)
      cases ex2 with
      | normal => simp only [AHeap.putK_eq] at hk2; exact ⟨_, _, hk2, hnx _, main none _ _ trivial rfl rfl⟩
      | ret => simp only [AHeap.putK_eq] at hk2; exact ⟨_, _, hk2, hnx _, main (some .ret) _ _ trivial rfl rfl⟩
      | exit id => simp only [AHeap.putK_eq] at hk2; exact ⟨_, _, hk2, hnx _, main (some (.exit id)) _ _ rfl rfl rfl⟩
      | _ => cases hk2
    | _ => cases hk1
/-- the evaluator, at any depth -/
theorem ev_sound {fns : FuncId → Option FnE} (hT : TabOk P fns) (hreg : ∀ {R : Type} (callF : CallF R), CallOk P callF → RegionOk P callF) {R : Type} : ∀ n, CallOk P (ev P fns n : CallF R)
  | 0 => fun t args H k r h => by cases h
  | n + 1 => by
    rw [ev_succ]
    exact callBody_sound hT (ev_sound hT hreg n) (hreg _ (ev_sound hT hreg n)) n
end
end Go.Ab
