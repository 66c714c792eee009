/-
  The evaluator: regions (in their order; in a region that draws: in one order that stands for all), code, calls, loops over functions.
-/
import Derived.Test.YtjncmibloiomhaaGreatAb2
namespace Go.Ab

/-! ### the order of a region that draws -/
noncomputable def forceNs {R : Type} (l : List Nat) (k : List Nat → Option R) : Option R :=
  List.rec (motive := fun _ => (List Nat → Option R) → Option R) (fun k => k []) (fun x _ ih k => forceN x fun x => ih fun l => k (x :: l)) l k
noncomputable def bindsA (e : Edge) : Bool :=
  match e.ground with
  | .textOnly _ => false
  | .gcOnly _ => false
  | _ => true
noncomputable def maskOf (l : List Nat) (es : List Edge) : Nat := es.foldr (fun e s => bif bindsA e then s ||| (2 ^ e.on ||| l.getD e.on 0) else s) 0
/-- of each operation those that are ahead of it (a bit each) -/
noncomputable def masksFrom : List Nat → List Oper → Option (List Nat)
  | l, [] => some l
  | l, o :: r => if o.after.toList.all (fun e => !bindsA e || Nat.blt e.on l.length) = true then forceN (maskOf l o.after.toList) fun m => forceNs (l ++ [m]) fun l => masksFrom l r else none
structure SStep where
  i : Nat
  o : Oper
  mask : Nat
  eff : Bool
noncomputable def isEff (P : Program) (o : Oper) : Bool :=
  match cls P o.op with
  | .eff => true
  | _ => false
noncomputable def orderFrom (P : Program) (ops : List Oper) (ml : List Nat) : (effs : List Nat) → (done : Nat) → List Nat
  | [], done => (List.range ops.length).filter fun f => !Nat.testBit done f
  | e :: r, done =>
    let m := ml.getD e 0
    let fl := (List.range ops.length).filter fun f => !Nat.testBit done f && Nat.testBit m f
    fl ++ e :: orderFrom P ops ml r (fl.foldl (fun s f => s ||| 2 ^ f) done ||| 2 ^ e)
noncomputable def stepsOf (P : Program) (ops : List Oper) (ml : List Nat) : (order : List Nat) → List SStep
  | [] => []
  | i :: r =>
    match ops[i]? with
    | some o => forceN (ml.getD i 0) fun mask => bif isEff P o then { i, o, mask, eff := true } :: stepsOf P ops ml r else { i, o, mask, eff := false } :: stepsOf P ops ml r
    | none => stepsOf P ops ml r
/-- may t come ahead of s, which is ahead of it here: if so they are nothing to each other; no effect comes ahead -/
noncomputable def pairOk (ops : Array Oper) (s t : SStep) : Bool :=
  !Nat.beq s.i t.i && bif t.eff then Nat.testBit t.mask s.i else (Nat.testBit t.mask s.i || Oper.apart ops s.o t.o)
noncomputable def pairsOk (ops : Array Oper) : List SStep → Bool
  | [] => true
  | s :: r => r.all (fun t => pairOk ops s t) && pairsOk ops r
noncomputable def schedOf (P : Program) (ops : Array Oper) : Option (List SStep) :=
  match masksFrom [] ops.toList with
  | none => none
  | some ml =>
    let effs := (List.range ops.toList.length).filter fun i => match ops.toList[i]? with
      | some o => isEff P o
      | none => false
    let l := stepsOf P ops.toList ml (orderFrom P ops.toList ml effs 0)
    if (List.range ops.toList.length).all (fun i => l.any fun s => Nat.beq s.i i) = true ∧ pairsOk ops l = true then some l else none

/-! ### strict steps -/
section
variable {R : Type}
noncomputable def forceE (x : MapEntry) (k : MapEntry → Option R) : Option R := force x.key fun a => force x.val fun b => forceN x.born fun n => k { key := a, val := b, born := n }
noncomputable def forceEs (l : List MapEntry) (k : List MapEntry → Option R) : Option R :=
  List.rec (motive := fun _ => (List MapEntry → Option R) → Option R) (fun k => k []) (fun x _ ih k => forceE x fun x => ih fun l => k (x :: l)) l k
noncomputable def forceO (o : AObj) (k : AObj → Option R) : Option R :=
  match o with
  | .cells c true => forceL c fun c => k (.cells c true)
  | .cells c false => forceL c fun c => k (.cells c false)
  | .map es n => forceEs es fun es => forceN n fun n => k (.map es n)
  | .strIter s n => forceN n fun n => k (.strIter s n)
  | .mapIter m a l b => forceN a fun a => forceNs l fun l => forceN b fun b => k (.mapIter m a l b)
  | o => k o
noncomputable def Upd.run (u : Upd) (H : AHeap) (k : Nat → AHeap → Option R) : Option R :=
  match u with
  | .nop => k 0 H
  | .put i o => forceO o fun o => H.putK i (some o) fun H => k 0 H
  | .new o none => forceO o fun o => H.newK o k
  | .new o (some j) => forceO o fun o => H.putK j none fun H => H.newK o k
noncomputable def putT (tm : List Value) (dst : Option Tmp) (v : Value) (k : List Value → Option R) : Option R :=
  match dst with
  | some d => setK tm d v k
  | none => k tm

structure St where
  tm : List Value
  marks : List Nat
  H : AHeap

noncomputable def wantedA (ops : List Oper) (o : Oper) (tm : List Value) : Bool :=
  match o.guard with
  | none => true
  | some (j, want) => match ops[j]? with
    | some g => match g.dst with
      | some d => match tm[d]? with
        | some (.bool b) => b == want
        | _ => false
      | none => false
    | none => false

abbrev CallF (R : Type) := Tgt → List Value → AHeap → (Value → AHeap → Option R) → Option R

/-- one operation that is no floating read -/
noncomputable def evOp (P : Program) (callF : CallF R) (o : Oper) (st : St) (k : St → Option R) : Option R :=
  match cls P o.op with
  | .pur => match pureOp P o.op (evT st.tm) with
    | some v => force v fun v => putT st.tm o.dst v fun tm => k { st with tm }
    | none => none
  | .alloc => match allocOp P o.op (evT st.tm) with
    | some (ob, mk) => forceO ob fun ob => st.H.newK ob fun i H => putT st.tm o.dst (mk i) fun tm => k { st with tm, H }
    | none => none
  | .read => match readOp P o.op (evT st.tm) st.H with
    | some v => force v fun v => putT st.tm o.dst v fun tm => k { st with tm }
    | none => none
  | .eff => match callOp P o.op (evT st.tm) with
    | some (f, args) => forceL1 args fun args => callF f args st.H fun v H => putT st.tm o.dst v fun tm => k { st with tm, H }
    | none => match effOp P o.op (evT st.tm) st.H with
      | some (u, mk) => u.run st.H fun i H => force (mk i) fun v => putT st.tm o.dst v fun tm => k { st with tm, H }
      | none => none
noncomputable def skipOp (o : Oper) (st : St) (k : St → Option R) : Option R := putT st.tm o.dst undef fun tm => k { st with tm }

noncomputable def evOps (P : Program) (callF : CallF R) (all : List Oper) : List Oper → St → (St → Option R) → Option R
  | [], st, k => k st
  | o :: r, st, k => if o.op.operands.toList.all okOperand = true then
      (if wantedA all o st.tm = true then evOp P callF o st fun st => evOps P callF all r st k else skipOp o st fun st => evOps P callF all r st k)
    else none

/-- a floater that has laid a block since the region began: its number, how many effects were ahead of it, the block -/
structure Flo where
  i : Nat
  c : Nat
  id : Nat
  ob : AObj
/-- the heap that a floating read sees when c effects are over: with what the floaters ahead of it have laid since -/
noncomputable def seen (mask c : Nat) (H : AHeap) : List Flo → AHeap
  | [] => H
  | f :: r => bif Nat.testBit mask f.i && Nat.ble c f.c then (seen mask c H r).put f.id (some f.ob) else seen mask c H r
/-- does it read the same at all heaps of its window: back to the newest effect that is ahead of it whatever the order -/
noncomputable def windowOk (P : Program) (op : Op) (e : Operand → Value) (mask : Nat) (fl : List Flo) (v : Value) : (c : Nat) → List (Nat × AHeap) → Bool
  | _, [] => true
  | c, (i, H) :: hs => Nat.testBit mask i || ((match readOp P op e (seen mask (c - 1) H fl) with
      | some u => same 50 v u
      | none => false) && windowOk P op e mask fl v (c - 1) hs)
/-- a region that draws: cur: the heap right behind the newest effect (ahead of any: at the region's begin); hist: of each effect its number and the heap right behind the one ahead of it, the newest first; c: how many effects are over -/
noncomputable def evSched (P : Program) (callF : CallF R) (all : List Oper) : List SStep → (cur : AHeap) → (hist : List (Nat × AHeap)) → (c : Nat) → (fl : List Flo) → St → (St → Option R) → Option R
  | [], _, _, _, _, st, k => k st
  | s :: r, cur, hist, c, fl, st, k => if s.o.op.operands.toList.all okOperand = true then
      (bif s.eff then
        (if wantedA all s.o st.tm = true then evOp P callF s.o st fun st' => evSched P callF all r st'.H ((s.i, cur) :: hist) (c + 1) fl st' k
        else skipOp s.o st fun st' => evSched P callF all r st'.H ((s.i, cur) :: hist) (c + 1) fl st' k)
      else if wantedA all s.o st.tm = true then
        match cls P s.o.op with
        | .pur => match pureOp P s.o.op (evT st.tm) with
          | some v => force v fun v => putT st.tm s.o.dst v fun tm => evSched P callF all r cur hist c fl { st with tm } k
          | none => none
        | .alloc => match allocOp P s.o.op (evT st.tm) with
          | some (ob, mk) => forceO ob fun ob => st.H.newK ob fun i H => putT st.tm s.o.dst (mk i) fun tm => evSched P callF all r cur hist c ({ i := s.i, c, id := i, ob } :: fl) { st with tm, H } k
          | none => none
        | .read => match readOp P s.o.op (evT st.tm) (seen s.mask c cur fl) with
          | some v => if windowOk P s.o.op (evT st.tm) s.mask fl v c hist = true then
              force v fun v => putT st.tm s.o.dst v fun tm => evSched P callF all r cur hist c fl { st with tm } k
            else none
          | none => none
        | .eff => none
      else skipOp s.o st fun st => evSched P callF all r cur hist c fl st k)
    else none

noncomputable def evRegion (P : Program) (callF : CallF R) (ops : Array Oper) (draw : Bool) (st : St) (k : St → Option R) : Option R :=
  bif draw then
    match schedOf P ops with
    | some l => evSched P callF ops.toList l st.H [] 0 [] st k
    | none => none
  else evOps P callF ops.toList ops.toList st k

noncomputable def iter (body : St → (Exit → St → Option R) → Option R) (k : Exit → St → Option R) : Nat → St → Option R :=
  Nat.rec (fun _ => none) fun _ ih st => body st fun ex st => match ex with
    | .normal => ih st
    | ex => k ex st

noncomputable def rangeStart (f : Value) (ro : Option Nat) (ps : Array Tmp) (assign body : Code) (st : St) (k : List Nat → Nat → FuncId → List Value → AHeap → Option R) : Option R :=
  match f with
  | .func (.func g) a b =>
    match ro with
    | none => st.H.newK .marked fun d H => H.newK (.loop .ready none g st.tm ps assign body d) fun l H => k (d :: st.marks) l g (a.toList ++ [.func (.yield l) #[] #[]] ++ b.toList) H
    | some l0 => match st.H.get l0 with
      | some (.loop _ _ _ _ _ _ _ d) => st.H.newK (.loop .ready none g st.tm ps assign body d) fun l H => k st.marks l g (a.toList ++ [.func (.yield l) #[] #[]] ++ b.toList) H
      | _ => none
  | _ => none

noncomputable def evC (P : Program) (callF : CallF R) (ro : Option Nat) (n : Nat) (c : Code) : St → (Exit → St → Option R) → Option R :=
  Code.rec (motive := fun _ => St → (Exit → St → Option R) → Option R)
    (fun st k => k .normal st)
    (fun _ ops draw st k => evRegion P callF ops draw st fun st => k .normal st)
    (fun _ _ ea eb st k => ea st fun ex st => match ex with
      | .normal => eb st k
      | ex => k ex st)
    (fun c _ _ ea eb st k => bif okOperand c then (match evT st.tm c with
      | .bool true => ea st k
      | .bool false => eb st k
      | _ => none) else none)
    (fun id _ eb st k => eb st fun ex st => match ex with
      | .exit j => bif Nat.beq j id then k .normal st else k (.exit j) st
      | ex => k ex st)
    (fun _ eb st k => iter eb k n st)
    (fun f ps assign body _ _ st k => bif okOperand f then
      rangeStart (evT st.tm f) ro ps assign body st fun marks l g args H =>
        callF (.fn g) args H fun _ H => match H.get l with
          | some (.loop .busy _ _ _ _ _ _ _) => none
          | some (.loop _ pend fn tm ps assign body d) => H.putK l (some (.loop .exhausted pend fn tm ps assign body d)) fun H => match pend with
            | none => k .normal { tm := st.tm, marks, H }
            | some .ret => k .ret { tm := st.tm, marks, H }
            | some (.exit id) => k (.exit id) { tm := st.tm, marks, H }
            | _ => none
          | _ => none
      else none)
    (fun id st k => k (.exit id) st)
    (fun _ eb st k => eb st fun ex st => match ex with
      | .goto _ => none
      | ex => k ex st)
    (fun _ st k => k .normal st)
    (fun _ _ _ => none)
    (fun st k => k .ret st)
    (fun _ _ _ => none) c

structure FnE where
  code : Code
  ntmps : Nat
  results : List ResultVar

noncomputable def takeMarks : List Nat → AHeap → (AHeap → Option R) → Option R
  | [], H, k => k H
  | d :: r, H, k => match H.get d with
    | some .marked => H.putK d (some .shut) fun H => takeMarks r H k
    | _ => none
noncomputable def resultA (P : Program) (tm : List Value) (H : AHeap) : ResultVar → Option Value
  | .tmp t => some (tm.getD t undef)
  | .cell a t => loadA P t (tm.getD a undef) H
noncomputable def resultsA (P : Program) (tm : List Value) (H : AHeap) : List ResultVar → Option (List Value)
  | [] => some []
  | r :: rs => match resultA P tm H r, resultsA P tm H rs with
    | some v, some vs => some (v :: vs)
    | _, _ => none
noncomputable def tupled : List Value → Value
  | [v] => v
  | vs => .tuple ⟨vs⟩

noncomputable def foldSet : List Tmp → List Value → List Value → (List Value → Option R) → Option R
  | p :: ps, v :: vs, tm, k => setK tm p v fun tm => foldSet ps vs tm k
  | _, _, tm, k => k tm

/-- a call: of a function of the table; of a loop's body -/
noncomputable def callBody (P : Program) (fns : FuncId → Option FnE) (callF : CallF R) (n : Nat) : CallF R := fun t args H k =>
  match t with
  | .fn f => match fns f with
    | some fe => evC P callF none n fe.code { tm := args ++ List.replicate (fe.ntmps - args.length) undef, marks := [], H } fun ex st => match ex with
      | .normal | .ret => takeMarks st.marks st.H fun H => match resultsA P st.tm H fe.results with
        | some vs => force (tupled vs) fun v => k v H
        | none => none
      | _ => none
    | none => none
  | .yield l => match H.get l with
    | some (.loop _ _ _ tm ps assign body _) => if args.length = ps.toList.length then
        foldSet ps.toList args tm fun tm =>
          evC P callF (some l) n assign { tm, marks := [], H } fun ex st => match ex with
            | .normal => match st.H.get l with
              | some (.loop .ready pend fn tm0 ps0 assign0 body0 d) =>
                st.H.putK l (some (.loop .busy pend fn tm0 ps0 assign0 body0 d)) fun H =>
                  evC P callF (some l) n body { tm := st.tm, marks := st.marks, H } fun ex st => match st.H.get l with
                    | some (.loop _ _ fn tm0 ps0 assign0 body0 d) => match ex with
                      | .normal => st.H.putK l (some (.loop .ready none fn tm0 ps0 assign0 body0 d)) fun H => k (.bool true) H
                      | .ret => st.H.putK l (some (.loop .done (some .ret) fn tm0 ps0 assign0 body0 d)) fun H => k (.bool false) H
                      | .exit id => st.H.putK l (some (.loop .done (some (.exit id)) fn tm0 ps0 assign0 body0 d)) fun H => k (.bool false) H
                      | _ => none
                    | _ => none
              | _ => none
            | _ => none
      else none
    | _ => none
noncomputable def ev (P : Program) (fns : FuncId → Option FnE) : Nat → CallF R :=
  Nat.rec (fun _ _ _ _ => none) fun n ih => callBody P fns ih n
theorem ev_succ (P : Program) (fns : FuncId → Option FnE) (n : Nat) : (ev P fns (n + 1) : CallF R) = callBody P fns (ev P fns n) n := rfl
end

end Go.Ab
