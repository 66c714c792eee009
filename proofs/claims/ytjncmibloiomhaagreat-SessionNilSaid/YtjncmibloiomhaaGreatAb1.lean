/-
  The abstract heap of the evaluator: a trie of objects by number; strict (continuation-passing) forms of its operations, and their plain values.
-/
import Derived.RangeFuncCalls
import Derived.RangeFuncLeaves
import Derived.OrdersIn
import Derived.Laws.Cells
import Derived.Laws.Entries
import Derived.Laws.IdiomCopy
import Derived.Laws.StructEq
import Derived.MapKept
namespace Go.Ab

/-! ### strictness -/
section
variable {β : Type}
noncomputable def forceN (n : Nat) (k : Nat → β) : β := Nat.rec (k 0) (fun m _ => k (Nat.succ m)) n
theorem forceN_eq (n : Nat) (k : Nat → β) : forceN n k = k n := by cases n <;> rfl
noncomputable def forceI (i : Int) (k : Int → β) : β :=
  match i with
  | .ofNat n => forceN n fun m => k (.ofNat m)
  | .negSucc n => forceN n fun m => k (.negSucc m)
theorem forceI_eq (n : Int) (k : Int → β) : forceI n k = k n := by cases n <;> simp [forceI, forceN_eq]
noncomputable def forceA (a : Addr) (k : Addr → β) : β :=
  match a with
  | ⟨b, o, none⟩ => forceN b fun b => forceN o fun o => k ⟨b, o, none⟩
  | ⟨b, o, some s⟩ => forceN b fun b => forceN o fun o => forceN s fun s => k ⟨b, o, some s⟩
theorem forceA_eq (a : Addr) (k : Addr → β) : forceA a k = k a := by rcases a with ⟨b, o, _ | s⟩ <;> simp [forceA, forceN_eq]
/-- a value that is no compound one -/
noncomputable def force0 (v : Value) (k : Value → β) : β :=
  match v with
  | .bool true => k (.bool true)
  | .bool false => k (.bool false)
  | .int kd n => forceI n fun n => k (.int kd n)
  | .pointer (some a) => forceA a fun a => k (.pointer (some a))
  | .slice (some a) n c => forceA a fun a => forceN n fun n => forceN c fun c => k (.slice (some a) n c)
  | .map (some r) => forceN r fun r => k (.map (some r))
  | v => k v
theorem force0_eq (v : Value) (k : Value → β) : force0 v k = k v := by
  unfold force0; split <;> simp [forceN_eq, forceI_eq, forceA_eq]
noncomputable def forceL (l : List Value) (k : List Value → β) : β :=
  List.rec (motive := fun _ => (List Value → β) → β) (fun k => k []) (fun x _ ih k => force0 x fun x => ih fun l => k (x :: l)) l k
theorem forceL_eq (l : List Value) : ∀ (k : List Value → β), forceL l k = k l := by
  induction l with
  | nil => intro k; rfl
  | cons x l ih =>
    intro k
    show force0 x (fun x => forceL l fun l => k (x :: l)) = _
    rw [force0_eq, ih]
noncomputable def force1 (v : Value) (k : Value → β) : β :=
  match v with
  | .agg c => forceL c.toList fun l => k (.agg ⟨l⟩)
  | v => force0 v k
theorem force1_eq (v : Value) (k : Value → β) : force1 v k = k v := by
  unfold force1; split <;> simp [forceL_eq, force0_eq]
noncomputable def forceL1 (l : List Value) (k : List Value → β) : β :=
  List.rec (motive := fun _ => (List Value → β) → β) (fun k => k []) (fun x _ ih k => force1 x fun x => ih fun l => k (x :: l)) l k
theorem forceL1_eq (l : List Value) : ∀ (k : List Value → β), forceL1 l k = k l := by
  induction l with
  | nil => intro k; rfl
  | cons x l ih =>
    intro k
    show force1 x (fun x => forceL1 l fun l => k (x :: l)) = _
    rw [force1_eq, ih]
noncomputable def force (v : Value) (k : Value → β) : β :=
  match v with
  | .agg c => forceL c.toList fun l => k (.agg ⟨l⟩)
  | .tuple c => forceL1 c.toList fun l => k (.tuple ⟨l⟩)
  | v => force0 v k
theorem force_eq (v : Value) (k : Value → β) : force v k = k v := by
  unfold force; split <;> simp [forceL_eq, forceL1_eq, force0_eq]
/-- a list's place i is another one -/
noncomputable def setK (l : List Value) : (i : Nat) → (v : Value) → (List Value → β) → β :=
  List.rec (motive := fun _ => Nat → Value → (List Value → β) → β) (fun _ _ k => k [])
    (fun x xs ih i v k => Nat.rec (k (v :: xs)) (fun j _ => ih j v fun ys => k (x :: ys)) i) l
theorem setK_eq (l : List Value) : ∀ (i : Nat) (v : Value) (k : List Value → β), setK l i v k = k (l.set i v) := by
  induction l with
  | nil => intro i v k; rfl
  | cons x l ih =>
    intro i v k
    cases i with
    | zero => rfl
    | succ i =>
      show setK l i v (fun ys => k (x :: ys)) = _
      rw [ih]; rfl
end

/-! ### the trie -/
inductive Tr (α : Type) where
  | leaf
  | node (l : Tr α) (v : Option α) (r : Tr α)

namespace Tr
variable {α : Type} {β : Type}
noncomputable def get (t : Tr α) : Nat → Option α :=
  Tr.rec (motive := fun _ => Nat → Option α) (fun _ => none)
    (fun _ v _ gl gr i => bif Nat.beq i 0 then v else bif Nat.beq (i % 2) 1 then gl (i / 2) else gr (i / 2 - 1)) t
theorem get_leaf (i : Nat) : (leaf : Tr α).get i = none := rfl
theorem get_node (l : Tr α) (v : Option α) (r : Tr α) (i : Nat) :
    (node l v r).get i = bif Nat.beq i 0 then v else bif Nat.beq (i % 2) 1 then l.get (i / 2) else r.get (i / 2 - 1) := rfl
noncomputable def setK : Nat → Tr α → Nat → Option α → (Tr α → β) → β :=
  Nat.rec (fun t _ _ k => k t) fun _ ih t i v k =>
    match t with
    | leaf => bif Nat.beq i 0 then k (node leaf v leaf) else bif Nat.beq (i % 2) 1 then ih leaf (i / 2) v (fun l => k (node l none leaf)) else ih leaf (i / 2 - 1) v (fun r => k (node leaf none r))
    | node l u r => bif Nat.beq i 0 then k (node l v r) else bif Nat.beq (i % 2) 1 then ih l (i / 2) v (fun l => k (node l u r)) else ih r (i / 2 - 1) v (fun r => k (node l u r))
theorem setK_zero (t : Tr α) (i : Nat) (v : Option α) (k : Tr α → β) : setK 0 t i v k = k t := rfl
theorem setK_leaf (n i : Nat) (v : Option α) (k : Tr α → β) : setK (n + 1) leaf i v k =
    bif Nat.beq i 0 then k (node leaf v leaf) else bif Nat.beq (i % 2) 1 then setK n leaf (i / 2) v (fun l => k (node l none leaf)) else setK n leaf (i / 2 - 1) v (fun r => k (node leaf none r)) := rfl
theorem setK_node (n : Nat) (l : Tr α) (u : Option α) (r : Tr α) (i : Nat) (v : Option α) (k : Tr α → β) : setK (n + 1) (node l u r) i v k =
    bif Nat.beq i 0 then k (node l v r) else bif Nat.beq (i % 2) 1 then setK n l (i / 2) v (fun l => k (node l u r)) else setK n r (i / 2 - 1) v (fun r => k (node l u r)) := rfl
noncomputable def set (t : Tr α) (i : Nat) (v : Option α) : Tr α := setK (i + 1) t i v id
theorem setK_out (n : Nat) : ∀ (t : Tr α) (i : Nat) (v : Option α) {γ : Type} (k : Tr α → γ), setK n t i v k = k (setK n t i v id) := by
  induction n with
  | zero => intro t i v γ k; rfl
  | succ n ih =>
    intro t i v γ k
    cases t with
    | leaf =>
      rw [setK_leaf, setK_leaf]
      cases Nat.beq i 0
      · cases Nat.beq (i % 2) 1
        · simp only [cond_false]; rw [ih, ih (k := fun r => id (node leaf none r))]; rfl
        · simp only [cond_false, cond_true]; rw [ih, ih (k := fun l => id (node l none leaf))]; rfl
      · rfl
    | node l u r =>
      rw [setK_node, setK_node]
      cases Nat.beq i 0
      · cases Nat.beq (i % 2) 1
        · simp only [cond_false]; rw [ih, ih (k := fun r => id (node l u r))]; rfl
        · simp only [cond_false, cond_true]; rw [ih, ih (k := fun l => id (node l u r))]; rfl
      · rfl
theorem setK_eq (t : Tr α) (i : Nat) (v : Option α) (k : Tr α → β) : setK (i + 1) t i v k = k (t.set i v) := setK_out _ _ _ _ _
theorem beq_iff (a b : Nat) : Nat.beq a b = true ↔ a = b := by
  constructor
  · exact Nat.eq_of_beq_eq_true
  · intro h; subst h; exact Nat.beq_refl a
theorem beq_false (a b : Nat) : Nat.beq a b = false ↔ a ≠ b := by
  rw [← Bool.not_eq_true, beq_iff]
theorem get_setK (n : Nat) : ∀ (t : Tr α) (i : Nat) (v : Option α), i < n → ∀ j, (setK n t i v id).get j = if i = j then v else t.get j := by
  induction n with
  | zero => intro t i v h; omega
  | succ n ih =>
    intro t i v h j
    cases t with
    | leaf =>
      rw [setK_leaf]
      by_cases h0 : i = 0
      · subst h0
        have : Nat.beq 0 0 = true := rfl
        simp only [this, cond_true, id, get_node, get_leaf]
        by_cases hj : j = 0
        · subst hj; simp
        · rw [(beq_false j 0).2 hj]; simp [Ne.symm hj]
      · rw [(beq_false i 0).2 h0]
        by_cases h1 : i % 2 = 1
        · rw [(beq_iff _ _).2 h1]
          simp only [cond_false, cond_true]
          rw [setK_out]
          simp only [id, get_node, get_leaf]
          by_cases hj : j = 0
          · subst hj; simp [h0]
          · rw [(beq_false j 0).2 hj]
            by_cases hj1 : j % 2 = 1
            · rw [(beq_iff _ _).2 hj1, ih _ _ _ (by omega)]
              simp only [cond_false, cond_true, get_leaf]
              by_cases e : i = j
              · subst e; simp
              · rw [if_neg e, if_neg (by omega)]
            · rw [(beq_false _ _).2 hj1]
              simp only [cond_false]
              rw [if_neg (by omega)]
        · rw [(beq_false _ _).2 h1]
          simp only [cond_false]
          rw [setK_out]
          simp only [id, get_node, get_leaf]
          by_cases hj : j = 0
          · subst hj; simp [h0]
          · rw [(beq_false j 0).2 hj]
            by_cases hj1 : j % 2 = 1
            · rw [(beq_iff _ _).2 hj1]
              simp only [cond_false, cond_true]
              rw [if_neg (by omega)]
            · rw [(beq_false _ _).2 hj1, ih _ _ _ (by omega)]
              simp only [cond_false, get_leaf]
              by_cases e : i = j
              · subst e; simp
              · rw [if_neg e, if_neg (by omega)]
    | node l u r =>
      rw [setK_node]
      by_cases h0 : i = 0
      · subst h0
        have : Nat.beq 0 0 = true := rfl
        simp only [this, cond_true, id, get_node]
        by_cases hj : j = 0
        · subst hj; simp
        · rw [(beq_false j 0).2 hj]; simp [Ne.symm hj]
      · rw [(beq_false i 0).2 h0]
        by_cases h1 : i % 2 = 1
        · rw [(beq_iff _ _).2 h1]
          simp only [cond_false, cond_true]
          rw [setK_out]
          simp only [id, get_node]
          by_cases hj : j = 0
          · subst hj; simp [h0]
          · rw [(beq_false j 0).2 hj]
            by_cases hj1 : j % 2 = 1
            · rw [(beq_iff _ _).2 hj1, ih _ _ _ (by omega)]
              simp only [cond_false, cond_true]
              by_cases e : i = j
              · subst e; simp
              · rw [if_neg e, if_neg (by omega)]
            · rw [(beq_false _ _).2 hj1]
              simp only [cond_false]
              rw [if_neg (by omega)]
        · rw [(beq_false _ _).2 h1]
          simp only [cond_false]
          rw [setK_out]
          simp only [id, get_node]
          by_cases hj : j = 0
          · subst hj; simp [h0]
          · rw [(beq_false j 0).2 hj]
            by_cases hj1 : j % 2 = 1
            · rw [(beq_iff _ _).2 hj1]
              simp only [cond_false, cond_true]
              rw [if_neg (by omega)]
            · rw [(beq_false _ _).2 hj1, ih _ _ _ (by omega)]
              simp only [cond_false]
              by_cases e : i = j
              · subst e; simp
              · rw [if_neg e, if_neg (by omega)]
theorem get_set (t : Tr α) (i : Nat) (v : Option α) (j : Nat) : (t.set i v).get j = if i = j then v else t.get j := get_setK _ _ _ _ (Nat.lt_succ_self i) _
end Tr

/-! ### the heap -/
/-- an object: cells (those that may not be written: ro), a map, a walk over one or over a string, the record of a loop over a function, the block for its deferred calls -/
inductive AObj where
  | cells (c : List Value) (ro : Bool)
  | map (es : List MapEntry) (clock : Nat)
  | strIter (s : ByteArray) (pos : Nat)
  | mapIter (m : Option Nat) (since : Nat) (seen : List Nat) (stepped : Nat)
  | loop (st : LoopState) (pend : Option Code) (fn : FuncId) (tm : List Value) (ps : Array Tmp) (assign body : Code) (defers : Nat)
  | marked
  | shut

def AObj.free : AObj → Bool
  | .cells _ ro => !ro
  | _ => true

structure AHeap where
  next : Nat
  tr : Tr AObj

namespace AHeap
variable {β : Type}
noncomputable def get (H : AHeap) (i : Nat) : Option AObj := H.tr.get i
noncomputable def put (H : AHeap) (i : Nat) (o : Option AObj) : AHeap := ⟨H.next, H.tr.set i o⟩
noncomputable def putK (H : AHeap) (i : Nat) (o : Option AObj) (k : AHeap → β) : β := Tr.setK (i + 1) H.tr i o fun t => k ⟨H.next, t⟩
theorem putK_eq (H : AHeap) (i : Nat) (o : Option AObj) (k : AHeap → β) : H.putK i o k = k (H.put i o) := Tr.setK_eq _ _ _ _
noncomputable def new (H : AHeap) (o : AObj) : AHeap := ⟨H.next + 1, H.tr.set H.next (some o)⟩
noncomputable def newK (H : AHeap) (o : AObj) (k : Nat → AHeap → β) : β := Tr.setK (H.next + 1) H.tr H.next (some o) fun t => forceN (H.next + 1) fun n => k H.next ⟨n, t⟩
theorem newK_eq (H : AHeap) (o : AObj) (k : Nat → AHeap → β) : H.newK o k = k H.next (H.new o) := by
  unfold newK
  rw [Tr.setK_eq, forceN_eq]; rfl
theorem get_put (H : AHeap) (i : Nat) (o : Option AObj) (j : Nat) : (H.put i o).get j = if i = j then o else H.get j := Tr.get_set _ _ _ _
theorem get_new (H : AHeap) (o : AObj) (j : Nat) : (H.new o).get j = if H.next = j then some o else H.get j := Tr.get_set _ _ _ _
theorem next_put (H : AHeap) (i : Nat) (o : Option AObj) : (H.put i o).next = H.next := rfl
theorem next_new (H : AHeap) (o : AObj) : (H.new o).next = H.next + 1 := rfl
end AHeap

end Go.Ab
