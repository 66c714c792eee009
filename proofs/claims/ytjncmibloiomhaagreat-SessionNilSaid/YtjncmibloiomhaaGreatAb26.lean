/-
  From the evaluator's answer to the machine's; a law's row.
-/
import Derived.Test.YtjncmibloiomhaaGreatAb25
import Derived.Carry
import Derived.ChangeSame
import Derived.ProofKit
import Derived.KernelRfl
namespace Go.Ab
open Go.RowKit Go.WideShapes Go.ChangeShapes
/-- the functions by their numbers -/
noncomputable def fnTab (P : Program) (f : FuncId) : Option FnE :=
  match P.funcs.toList[f]? with
  | some fn => match fn.body with
    | some c => some { code := c, ntmps := fn.ntmps, results := fn.results.toList }
    | none => none
  | none => none
def namesOk (P : Program) : Bool := P.funcs.toList.all fun fn => !(fn.name == "runtime.NumGoroutine")
theorem tab_ok {P : Program} (h : namesOk P = true) : TabOk P (fnTab P) := ⟨fun f fe hf => by
  unfold fnTab at hf
  split at hf
  · rename_i fn hfn
    split at hf
    · rename_i c hc
      cases hf
      have := List.all_eq_true.1 h fn (List.mem_of_getElem? hfn)
      exact ⟨fn, by rw [← Array.getElem?_toList]; exact hfn, hc, rfl, rfl, by simpa using this⟩
    · cases hf
  · cases hf⟩
def loc0 : Loc := ⟨fun _ => none, fun _ => 0⟩
noncomputable def heap0 : AHeap := ⟨0, .leaf⟩
/-- what the evaluator tells at an empty heap is so of every call -/
theorem ran {P : Program} (hm : P.follows .mixedOrders = true) (hn : namesOk P = true) {n : Nat} {f : FuncId} {args : List Value} {v : Value} (h : ev P (fnTab P) n (.fn f) args heap0 (fun v _ => some v) = some v) {w : World} {ar : Array Value} (hA : LRel loc0 args ar.toList) :
    Calls P f ar w fun e w' => ∃ ρ vr, e = .returned vr ∧ VRel ρ v vr ∧ Below w.heap.size w w' := by
  obtain ⟨v', H', hk, _, hs⟩ := ev_sound (tab_ok hn) (fun callF hc => region_sound hm callF hc) n _ _ _ _ _ h
  have hv : v' = v := Option.some.inj hk
  subst hv
  have h0 : HRel loc0 heap0 w := ⟨fun i o h => (by cases h), fun i b s h => (by cases h), fun i j o o' b s s' _ h => (by cases h), fun i o h => (by cases h)⟩
  obtain ⟨_, hc⟩ := hs loc0 w ar h0 (fun _ _ _ => rfl) hA
  refine callsIn_wide.1 (CallsIn.mono hc ?_)
  rintro e w' ⟨ρ, vr, he, hvr, hst⟩
  refine ⟨ρ, vr, he, hvr, hst.calm.os, hst.calm.tape, hst.calm.output, hst.size, fun k hk => hst.same k hk ?_⟩
  rintro ⟨i, o, s, hi, _⟩
  cases hi
noncomputable def tells (r : Option Value) : Bool :=
  match r with
  | some (.bool true) => true
  | _ => false
theorem tells_eq {r : Option Value} (h : tells r = true) : r = some (.bool true) := by
  unfold tells at h
  split at h
  · rfl
  · cases h
/-! ### arguments of which nothing is asked -/
def noBool (P : Program) (u : TypeId) : Bool :=
  match P.underlying u with
  | some .bool => false
  | _ => true
theorem opq_rel {P : Program} {ρ : Loc} {w : World} {r : Reach} {base : Nat} {u : TypeId} {v : Value} (h : Cell.okWide P w r base u v) (hb : noBool P u = true) : VRel ρ opq v := by
  refine .any v ?_
  unfold noBool at hb
  cases v <;> first | rfl | skip
  all_goals
    unfold Cell.okWide Cell.ok at h
    cases hu : P.underlying u with
    | none => rw [hu] at h; exact absurd h (by simp)
    | some d => rw [hu] at h hb; cases d <;> simp_all
theorem agg_rel {P : Program} {ρ : Loc} {w : World} {r : Reach} {base : Nat} {t : TypeId} {v : Value} {fs : Array Field} {ts : List TypeId} (h : Value.okWide P w r base t v) (hu : P.underlying t = some (.struct fs)) (hts : P.cellTypes P.depth t = some ts) (hb : ts.all (noBool P) = true) :
    VRel ρ (.agg ⟨List.replicate (P.cellsOf t) opq⟩) v := by
  simp only [Value.okWide, hu] at h
  obtain ⟨cs, rfl, hsz, ts', h1, _, h2⟩ := h
  rw [hts] at h1; cases h1
  refine .agg' ⟨by simp [hsz], fun i a b ha hb' => ?_⟩
  simp only [List.getElem?_replicate] at ha
  split at ha
  · cases ha
    rw [Array.getElem?_toList] at hb'
    obtain ⟨u, hu', hc⟩ := h2 i b hb'
    exact opq_rel hc (List.all_eq_true.1 hb u (List.mem_of_getElem? hu'))
  · cases ha
/-- a struct no cell of which is a bool -/
noncomputable def opqStruct (P : Program) (t : TypeId) : Bool :=
  match P.underlying t, P.cellTypes P.depth t with
  | some (.struct _), some ts => ts.all (noBool P)
  | _, _ => false
theorem agg_opq {P : Program} {ρ : Loc} {w : World} {r : Reach} {base : Nat} {t : TypeId} {v : Value} (h : Value.okWide P w r base t v) (hb : opqStruct P t = true) : VRel ρ (.agg ⟨List.replicate (P.cellsOf t) opq⟩) v := by
  unfold opqStruct at hb
  split at hb
  · rename_i fs ts hu hts
    exact agg_rel h hu hts hb
  · cases hb
/-! ### a law's row -/
section
variable {H : Type} {enc : TypeId × Value → H} {P : Program}
theorem reads_on (hl : laidOutB P = true) {W W' : World} (hb : Below W.heap.size W W') {sp : Nat → Bool} : ∀ {ts : List TypeId} {vs : List Value} {ds : List (DataW H)} {ps : List MemPlace}, ts.all (fun t => P.readableRec t && decide (t < P.types.size)) = true →
    DataW.TrodAll enc P W 0 (fun _ => true) true ts vs ds ps → (∀ x ∈ ps, x.block < W.heap.size) → (∀ x ∈ ps, sp x.block = true) → DataW.TrodAll enc P W' 0 sp true ts vs ds ps
  | [], vs, ds, ps, _, h, _, _ => by
    obtain ⟨rfl, rfl, rfl⟩ := trodAll_nil h
    exact trodAll_mk0
  | t :: ts, vs, ds, ps, ht, h, hlt, hsp => by
    obtain ⟨v, vs', d, ds', p, q, rfl, rfl, rfl, h1, h2⟩ := trodAll_cons h
    simp only [List.all_cons, Bool.and_eq_true, decide_eq_true_eq] at ht
    refine ⟨p, q, WideElems.Trod_stays hl ht.1.1 ht.1.2 h1 (fun x hx => hb.same (hlt x (List.mem_append_left _ hx))) (fun x hx => hsp x (List.mem_append_left _ hx)), ?_, rfl⟩
    exact reads_on hl hb (by simpa using ht.2) h2 (fun x hx => hlt x (List.mem_append_right _ hx)) (fun x hx => hsp x (List.mem_append_right _ hx))
theorem law_post (hl : laidOutB P = true) {f : Func} {s : ChangeSpec} {apart fresh handsOn again : Bool} {W W' : World} {args : Array Value} {ds gs : List (DataW H)} {before : List MemPlace} {tb : TypeId}
    (hp : f.params.toList.all (fun t => P.readableRec t && decide (t < P.types.size)) = true) (hvars : s.vars = []) (hr : f.resultTypes = #[tb]) (hb : P.underlying tb = some .bool)
    (hW : DataW.Whole enc P f.params.toList s.vars apart W args.toList ds gs before) (hs : s.fn H (ds ++ gs) = { results := [.lit (.bool true)], args := ds }) (hB : Below W.heap.size W W') :
    s.post enc P f apart fresh handsOn again W args (.bool true) W' := by
  have hlt : ∀ p ∈ before, p.block < W.heap.size := fun p hp => hW.lt p hp
  have hres : ∀ (b : Nat) (sp : Nat → Bool) (hd : Bool), DataW.TrodAll enc P W' b sp hd f.resultTypes.toList ((Value.bool true).resultList f.resultTypes.size) (s.fn H (ds ++ gs)).results [] := by
    intro b sp hd
    rw [hs, hr]
    exact trodAll_mk1 ⟨1, by simp [DataW.trod, Value.cells, hb]⟩
  have hok : ∀ (j : Nat) (t : TypeId) (r : Value), f.resultTypes[j]? = some t → ((Value.bool true).resultList f.resultTypes.size)[j]? = some r → Value.okWide P W' .any 0 t r := by
    intro j t r hj hv
    rw [hr] at hj hv
    match j, hj, hv with
    | 0, hj, hv =>
      simp [Value.resultList] at hj hv
      subst hj; subst hv
      simp [Value.okWide, hb, Cell.okWide, Cell.ok]
    | j + 1, hj, _ => simp at hj
  have hW' := hW
  obtain ⟨p, q, hA, hV, rfl, hz, hn⟩ := hW
  rw [hvars] at hV
  obtain ⟨rfl, rfl⟩ := trodVars_none hV
  have hargs : ∀ sp : Nat → Bool, (∀ x ∈ p ++ [], sp x.block = true) → DataW.TrodAll enc P W' 0 sp true f.params.toList args.toList (s.fn H (ds ++ [])).args p := fun sp hsp => by
    rw [hs]
    exact reads_on hl hB hp hA (fun x hx => hlt x (List.mem_append_left _ hx)) (fun x hx => hsp x (List.mem_append_left _ hx))
  have hvs : ∀ sp : Nat → Bool, DataW.TrodVars enc P W' sp s.vars (s.fn H (ds ++ [])).vars [] := fun sp => by
    rw [hs, hvars]; rfl
  have hold : ∀ x ∈ p ++ ([] : List MemPlace), (fun b => decide (b < W.heap.size)) x.block = true := fun x hx => by simpa using hlt x hx
  refine ⟨ds, [], p ++ [], [], p, [], hW', hres _ _ _, hargs _ hold, hvs _, World.keptBut_mono (fun x hx => ⟨hx, .inr (List.mem_append.1 hx)⟩) (hB.frame (· ∈ p ++ [])), fun _ => ⟨hok, _, _, ([] ++ p) ++ [], ⟨[] ++ p, [], trodAll_append (hargs _ (fun _ _ => rfl)) (hres _ _ _), hvs _, rfl, ?_, ?_⟩, ?_⟩⟩
  · intro b off hx
    have hx' : MemPlace.cell b off ∈ p ++ [] := by simpa using hx
    have := hz b off hx'
    rw [hB.frozen (hlt _ hx')]
    exact this
  · intro ha
    have := hn ha
    simpa using this
  · intro x hx _
    simpa using hx
end
end Go.Ab
