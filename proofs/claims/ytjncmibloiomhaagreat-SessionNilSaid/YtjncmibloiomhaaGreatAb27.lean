/-
  The evaluator by equations: for values that are not known.
-/
import Derived.Test.YtjncmibloiomhaaGreatAb26
namespace Go.Ab
section
variable {P : Program} {R : Type} {callF : CallF R} {all r : List Oper} {o : Oper} {st : St} {k : St → Option R}
theorem evOps_pur {v : Value} (hok : o.op.operands.toList.all okOperand = true) (hw : wantedA all o st.tm = true) (hc : cls P o.op = .pur) (hp : pureOp P o.op (evT st.tm) = some v) :
    evOps P callF all (o :: r) st k = evOps P callF all r { st with tm := putL st.tm o.dst v } k := by
  simp only [evOps, hok, hw, if_true, evOp, hc, hp, force_eq, putT_eq]
theorem evOps_read {v : Value} (hok : o.op.operands.toList.all okOperand = true) (hw : wantedA all o st.tm = true) (hc : cls P o.op = .read) (hp : readOp P o.op (evT st.tm) st.H = some v) :
    evOps P callF all (o :: r) st k = evOps P callF all r { st with tm := putL st.tm o.dst v } k := by
  simp only [evOps, hok, hw, if_true, evOp, hc, hp, force_eq, putT_eq]
theorem evOps_alloc {ob : AObj} {mk : Nat → Value} (hok : o.op.operands.toList.all okOperand = true) (hw : wantedA all o st.tm = true) (hc : cls P o.op = .alloc) (hp : allocOp P o.op (evT st.tm) = some (ob, mk)) :
    evOps P callF all (o :: r) st k = evOps P callF all r { st with tm := putL st.tm o.dst (mk st.H.next), H := st.H.new ob } k := by
  simp only [evOps, hok, hw, if_true, evOp, hc, hp, forceO_eq, AHeap.newK_eq, putT_eq]
theorem evOps_call {t : Tgt} {args : List Value} {v : Value} {H' : AHeap} (hok : o.op.operands.toList.all okOperand = true) (hw : wantedA all o st.tm = true) (hc : cls P o.op = .eff) (hp : callOp P o.op (evT st.tm) = some (t, args))
    (hr : ∀ k : Value → AHeap → Option R, callF t args st.H k = k v H') : evOps P callF all (o :: r) st k = evOps P callF all r { st with tm := putL st.tm o.dst v, H := H' } k := by
  simp only [evOps, hok, hw, if_true, evOp, hc, hp, forceL1_eq, hr, putT_eq]
theorem evOps_skip (hok : o.op.operands.toList.all okOperand = true) (hw : wantedA all o st.tm = false) : evOps P callF all (o :: r) st k = evOps P callF all r { st with tm := putL st.tm o.dst undef } k := by
  simp only [evOps, hok, hw, if_true, Bool.false_eq_true, if_false, skip_eq]
theorem evOps_end : evOps P callF all [] st k = k st := Eq.trans rfl rfl
variable {ro : Option Nat} {n : Nat} {x y : Code} {kk : Exit → St → Option R}
theorem evC_seq : evC P callF ro n (.seq x y) st kk = evC P callF ro n x st (fun ex st => match ex with
    | .normal => evC P callF ro n y st kk
    | ex => kk ex st) := Eq.trans rfl rfl
theorem evC_region {id : Nat} {ops : Array Oper} : evC P callF ro n (.region id ops false) st kk = evOps P callF ops.toList ops.toList st (fun st => kk .normal st) := Eq.trans rfl rfl
theorem evC_ret : evC P callF ro n .ret st kk = kk .ret st := Eq.trans rfl rfl
theorem evC_skip : evC P callF ro n .skip st kk = kk .normal st := Eq.trans rfl rfl
theorem evC_cond {c : Operand} (b : Bool) (hok : okOperand c = true) (hc : evT st.tm c = .bool b) : evC P callF ro n (.cond c x y) st kk = if b = true then evC P callF ro n x st kk else evC P callF ro n y st kk := by
  show (bif okOperand c then (match evT st.tm c with
    | .bool true => evC P callF ro n x st kk
    | .bool false => evC P callF ro n y st kk
    | _ => none) else none) = _
  rw [hok, hc]
  cases b <;> rfl
/-- a call of a function -/
theorem ev_call {fns : FuncId → Option FnE} {f : FuncId} {fe : FnE} {args : List Value} {H : AHeap} {k : Value → AHeap → Option R} (hf : fns f = some fe) :
    (ev P fns (n + 1) : CallF R) (.fn f) args H k = evC P (ev P fns n) none n fe.code { tm := args ++ List.replicate (fe.ntmps - args.length) undef, marks := [], H } (fun ex st => match ex with
      | .normal | .ret => takeMarks st.marks st.H fun H => match resultsA P st.tm H fe.results with
        | some vs => k (tupled vs) H
        | none => none
      | _ => none) := by
  rw [ev_succ]
  simp only [callBody, hf, force_eq]
  congr 1
theorem fnTab_of {f : FuncId} {fn : Func} {c : Code} (hf : P.funcs[f]? = some fn) (hb : fn.body = some c) : fnTab P f = some { code := c, ntmps := fn.ntmps, results := fn.results.toList } := by
  unfold fnTab
  rw [Array.getElem?_toList, hf]
  simp only [hb]
end
end Go.Ab
